import Derived.Test.YtpjjmindjodknaaGreatTB
import Derived.ChangeSame
import Derived.Carry
import Derived.ProofKit
import Derived.ChangeStays
import Derived.ChangeArms
import Derived.SizedLaws
set_option linter.unusedVariables false
set_option linter.unusedSimpArgs false
set_option maxRecDepth 100000
namespace Go.Ai
noncomputable section
variable {P:Program}
def X0:List Tmp->List aaa->Env->Option Env
 |[],[],s=>some s
 |t::ts,v::vs,s=>(match s.put (some t) v with
  |some s1=>X0 ts vs s1
  |none=>none)
 |_,_,_=>none
theorem Jr{ρ:xo}:∀{ts:List Tmp} {vs vs':List aaa} {s s':Env} {tm:Array aaa},X0 ts vs s=some s'->vG ρ s tm->wG ρ vs vs' ->
  ts.length=vs'.length/\vG ρ s' ((ts.zip vs').foldl (λtm x=>tm.setIfInBounds x.1 x.2) tm)
 |[],[],vs',s,s',tm,he,hs,hv=>by
  cases hv.uG;simp only[X0,aab]at he;subst he;exact⟨rfl,hs⟩
 |t::ts,v::vs,vs',s,s',tm,he,hs,hv=>by
  obtain⟨y,ys,rfl,h1,h2⟩:=hv.cons_inv;simp only[X0]at he;split at he
  ·rename_i s1 hp;have:=Jr he (hs.put h1 hp) h2;exact⟨by simp[this.1],by simpa [qo] using this.2⟩
  ·cases he
 |[],_::_,_,_,_,_,he,_,_=>by simp[X0]at he
 |_::_,[],_,_,_,_,he,_,_=>by simp[X0]at he
def Ui(l:aJ)(tm:Array aaa)(d:Nat)(fn:FuncId):Loop:={state:=l.state,pending:=l.pending,fn:=fn,tmps:=tm,params:=l.params,assign:=l.assign,body:=l.body,defers:=d}
theorem Rel.loop{ρ:xo}{h:za}{w:World}(hr:Rel P ρ h w){b:Nat}{A:aJ}{pl:Place}(hg:h.get b=some (.loop A))(hm:ρ.m b=some pl) :
  ∃tm d fn,w.heap[pl.c]? = some (.loop (Ui A tm d fn))/\vG ρ A.s tm:=hr.OJ hg hm
theorem Ek(w:World)(l k:Nat)(o:Obj)(hk:k≠l):(w.heap.setIfInBounds l o)[k]? = w.heap[k]?:=by rw[aa2,aag (Ne.symm hk)]
theorem Ej(w:World)(l:Nat)(o:Obj)(hl:l<w.heap.size):(w.heap.setIfInBounds l o)[l]? = some o:=by rw[aa2,aai rfl,aai hl]
theorem Step.zaO{ρ:xo}{h:za}{w:World}(hr:Rel P ρ h w){b:Nat}{A A':aJ}{pl:Place}(hg:h.get b=some (.loop A))(hm:ρ.m b=some pl)(hro:h.ro<=b){tm:Array aaa}{d fn:Nat}
  (ho:w.heap[pl.c]? = some (.loop (Ui A tm d fn))) (hs:vG ρ A'.s tm) :
  Step P ρ h w ρ (h.set b (some (.loop A'))) {w with heap:=w.heap.setIfInBounds pl.c (.loop (Ui A' tm d fn))} :=
 Step.GH hr hg hm hro (ob' := .loop A') ⟨tm,d,fn,Ej w pl.c _ (Yj ho),hs⟩ rfl rfl rfl (by simp) (λk hk=>Ek w pl.c k _ hk)
theorem X1{w:World}{l:Nat}{r:Loop}(h:w.heap[l]? = some (.loop r)):(Instr.getLoop l).run P w=.ok r w:=by
 simp only[Instr.getLoop,getObj,aah];simp only[Sem.run,h,aac];rfl
theorem Js{w:World}{l:Nat}{r:Loop}(h:w.heap[l]? = some (.loop r))(o:Obj):(setObj l o).run P w=.ok () {w with heap:=w.heap.setIfInBounds l o}:=by
 simp only[setObj,Sem.run,h]
theorem Mk{w:World}{l:Nat}{r:Loop}{args:Array aaa}(h:w.heap[l]? = some (.loop r))(hn:args.size=r.params.size) :
  (Instr.yield l args).run P w=.ok (.round l r.fn ((r.params.toList.zip args.toList).foldl (λtm x=>tm.setIfInBounds x.1 x.2) r.tmps) r.assign r.body) w:=by
 simp only[Instr.yield,aah,X1 h,aac];rw[aag (by simp[hn])];simp only[aal];rw[<- Array.foldl_toList,Array.toList_zip]
theorem rj{w:World}{l:Nat}{r:Loop}(h:w.heap[l]? = some (.loop r))(hr:r.state=.ready) :
  (Instr.beginRound l).run P w=.ok () {w with heap:=w.heap.setIfInBounds l (.loop {r with state := .busy})}:=by
 simp only[Instr.beginRound,aah,X1 h,aac,Js h,hr,aal]
theorem QZ{w:World}{l:Nat}{r:Loop}(h:w.heap[l]? = some (.loop r))(jump:Option Code) :
  (Instr.endRound l jump).run P w=.ok (.bool jump.isNone) {w with heap:=w.heap.setIfInBounds l (.loop {r with state:=if jump.isNone then .ready else .done,pending:=jump})}:=by
 simp only[Instr.endRound,aah,X1 h,aac,Js h,aal]
theorem E2{w:World}{l:Nat}{r:Loop}(h:w.heap[l]? = some (.loop r))(hb:(r.state == .busy)=false) :
  (Instr.endLoop l).run P w=.ok r.pending {w with heap:=w.heap.setIfInBounds l (.loop {r with state := .exhausted})}:=by
 simp only[Instr.endLoop,aah,X1 h,aac,hb,aa9,ab1,Js h,aal]
section moves
variable {b:Frame}{tm:Array aaa}{ds:List Deferred}{k:List Item}{cs:List Frame}{w w':World}
theorem gQ{l:Nat}(hb:b.roundOf=some l)(hrun:(Instr.beginRound l).run P w=.ok () w'):step P (lone (vB b tm ds (.beginRound::k)) cs w)=.next (lone (vB b tm ds k) cs w') :=
 step_lone_go (by
  simp only[stepG,vB,stepG.exec,hb,stepG.apply];simp[hrun,Frame.finish])
def Xk:Ex->Option Code
 | .normal=>none
 | .ret=>some .ret
 | .exit id=>some (.exit id)
theorem Jc{l:Nat}{fr:Frame}(hb:b.roundOf=some l)(hk:b.kind=.normal){e:Ex}(todo:List Item)
  (htodo:match e with | .normal=>todo=[] | .ret=>∃t,todo=.code .ret::t | .exit id=>∃t,todo=.code (.exit id)::t/\exitTo id t=none) {v:aaa}
  (hrun:(Instr.endRound l (Xk e)).run P w=.ok v w') :
  step P (lone (vB b tm ds todo) (fr::cs) w)=.next (lone (fr.finish v) cs w') :=
 step_lone_go (by
  cases e with
  |normal=>subst htodo;simp only[Xk]at hrun;simp[stepG,vB,stepG.exec,hb,hrun,doReturn,hk]
  |ret=>obtain⟨t,rfl⟩:=htodo;simp only[Xk]at hrun;simp[stepG,vB,stepG.exec,hb,hrun,doReturn,hk]
  |exit id=>obtain⟨t,rfl,ht⟩:=htodo;simp only[Xk]at hrun;simp[stepG,vB,stepG.exec,hb,ht,hrun,doReturn,hk])
theorem pj{ops:Array Oper}{i:Nat}{rest:List Nat}{o:Oper}(ho:ops[i]? = some o)(hw:Region.wanted o (yielded ops tm)=true)(hd:Xv o.op=false){l:Nat}{f:FuncId}{tm':Array aaa}{as bd:Code}{w':World}
  (hr:(execOp (Act.eval ⟨tm,ds⟩) o).run P w=.ok (.round l f tm' as bd) w') :
  step P (lone (vB b tm ds (.inRegion ops (i::rest)::k)) cs w)=.next (lone (Frame.round l f tm' as bd .normal) (vB b tm ds (.inRegion ops (i::rest)::k)::cs) w') :=
 step_lone_go (by rw[aA ho hw hd];simp[stepG.apply,hr,vB])
theorem cF{l:Nat}{jump:Option Code}(hrun:(Instr.endLoop l).run P w=.ok jump w') :
  step P (lone (vB b tm ds (.endRangeFunc l::k)) cs w)=.next (lone (vB b tm ds ((jump.map Item.code).toList++k)) cs w') :=
 step_lone_go (by simp[stepG,vB,stepG.exec,hrun])
theorem lH{f:Operand}{params:Array Tmp}{as bd:Code}{l:Nat}{mark:List Deferred}{w1 w2:World}{g:FuncId}{args:Array aaa}
  (hrun:(Instr.enterLoop b.fn tm params as bd b.roundOf).run P w=.ok (l,mark) w1)
  (hcall:(do let d <- resolve (Act.eval ⟨tm,ds⟩) {callee := .value f,args := #[.const (.func (.yield l) #[] #[])],argTypes := #[]} 0;invoke d.target d.args:Sem Next).run P w1=.ok (.enter g args) w2) :
  step P (lone (vB b tm ds (.code (.rangeFunc f params as bd)::k)) cs w)=.next (lone (Frame.enter P g args .normal) (vB b tm (mark++ds) (.inRangeFunc l::k)::cs) w2) :=
 step_lone_go (by
  have he:=pb b tm (mark++ds) (.inRangeFunc l::k);have he':(Act.eval ⟨tm,mark++ds⟩)=(Act.eval ⟨tm,ds⟩):=by funext x;cases x <;> rfl
  rw[he']at he;simp only[vB]at he;simp only[stepG,vB,stepG.exec];simp only[Sem.runT_eq,hrun,GStep.bare_after];simp only[stepG.apply,he,Sem.runT_eq,hcall];simp[GStep.bare,GStep.after])
end moves
def TY(P:Program)(L:Nat)(args:List aaa)(h:za)(R:aaa->za->Prop):Prop :=
 ∀(ρ:xo) (w:World) (cargs:List aaa) (pl:Place),Rel P ρ h w->wG ρ args cargs->L<ρ.next->ρ.m L=some pl ->
  ∃f tm as bd,(Instr.yield pl.c cargs.toArray).run P w=.ok (.round pl.c f tm as bd) w /\
   ∀(fr:Frame) (cs:List Frame),∃v v' h' ρ' w',R v h'/\Step P ρ h w ρ' h' w'/\zH ρ' v v'/\Steps P (lone (Frame.round pl.c f tm as bd .normal) (fr::cs) w) (lone (fr.finish v') cs w')
def aJ.left(A:aJ)(e:Ex):aJ:={A with state:=if (Xk e).isNone then .ready else .done,pending:=Xk e}
theorem Pw{L:Nat}{A:aJ}{args:List aaa}{h:za}{s0:Env}{R:aaa->za->Prop}(hg:h.get L=some (.loop A))(he:X0 A.params.toList args A.s=some s0)
  (ht:T P (some L) A.assign s0 h (λe s1 h1=>e=.normal /\ ∃A1,h1.get L=some (.loop A1)/\A1.state=.ready/\h1.ro<=L /\
   T P (some L) A.body s1 (h1.set L (some (.loop {A1 with state := .busy}))) (λe s2 h2=>∃A2,h2.get L=some (.loop A2)/\h2.ro<=L /\
     R (.bool (Xk e).isNone) (h2.set L (some (.loop (A2.left e))))))):TY P L args h R:=by
 intro ρ w cargs pl hr hv hL hm;obtain⟨tm,d,fn,ho,hs⟩:=hr.loop hg hm;obtain⟨hlen,hs0⟩:=Jr he hs hv;refine⟨fn,_,A.assign,A.body,Mk ho (by simpa [Ui] using hlen.symm),λfr cs=>?_⟩
 let b:Frame:={ (default:Frame) with fn:=fn,kind := .normal,roundOf:=some pl.c}
 have hrd:Rd ρ (some L) b:=⟨hL,pl,hm,rfl⟩;obtain⟨e,s1,h1,ρ1,w1,tm1,ds1,⟨rfl,A1,g1,a1,ro1,q⟩,st1,hs1,_,ha⟩:=ht ρ w _ [] hr hs0 b hrd [.beginRound,.code A.body] (fr::cs);have hm1:ρ1.m L=some pl:=(st1.le.2 L hL).trans hm;obtain⟨tmA,dA,fnA,hoA,hsA⟩:=st1.rel.loop g1 hm1;have sb:=Step.zaO st1.rel g1 hm1 ro1 (A':={A1 with state := .busy}) hoA hsA;obtain⟨e,s2,h2,ρ2,w2,tm2,ds2,⟨A2,g2,ro2,hR⟩,st2,hs2,_,ha2⟩:=q ρ1 _ tm1 ds1 sb.rel hs1 b (hrd.mono st1.le) [] (fr::cs);have hm2:ρ2.m L=some pl:=(st2.le.2 L (aap hL st1.le.1)).trans hm1;obtain⟨tmB,dB,Tb,hoB,hsB⟩:=st2.rel.loop g2 hm2;have se:=Step.zaO st2.rel g2 hm2 ro2 (A':=A2.left e) hoB hsB;refine⟨_,.bool (Xk e).isNone,_,ρ2,_,hR,((st1.trans sb).trans st2).trans se,.bool _,?_⟩;refine abT ha (.head (gQ rfl (rj hoA a1)) ?_);cases e with
 |normal=>exact abT ha2 (.one (Jc (e := .normal) rfl rfl [] rfl (QZ hoB _)))
 |ret=>obtain⟨t,sx⟩:=ha2;exact sx.trans (.one (Jc (e := .ret) rfl rfl _ ⟨t,rfl⟩ (QZ hoB _)))
 |exit id=>obtain⟨t,et,sx⟩:=ha2;exact sx.trans (.one (Jc (e := .exit id) rfl rfl _ ⟨t,rfl,et.trans rfl⟩ (QZ hoB _)))
theorem Cp{s:Env}{h:za}{Q:Env->za->Prop}{ops:Array Oper}{i:Nat}{rest:List Nat}{o:Oper}{f:Operand}{cargs:Array Operand}{ts:Array TypeId}{L:Nat}{vs:List aaa}{R:aaa->za->Prop}
  (ho:ops[i]? = some o) (hw:yq ops s o=true) (yk:o.op=.call {callee := .value f,args:=cargs,argTypes:=ts}) (hf:kG s f=some (.func (.yield L) #[] #[])) (hargs:Vq s cargs.toList=some vs)
  (hc:TY P L vs h R) (ht:∀v h1,R v h1->∃s1,s.put o.dst v=some s1/\TO P ops rest s1 h1 Q):TO P ops (i::rest) s h Q:=by
 intro ρ w tm ds hr hs b k cs;have hw':Region.wanted o (yielded ops tm)=true:=(Xg hs ops o).trans hw;have e1:=zY (a:=⟨tm,ds⟩) hs hf;have e2:=jy (a:=⟨tm,ds⟩) hs hargs;generalize hfv:Act.eval ⟨tm,ds⟩ f=fv at e1;cases e1 with
 |yield hb hm=>
  rename_i pl;obtain⟨fn,tmr,as,bd,hy,hgo⟩:=hc ρ w _ pl hr e2 hb hm
  have hrun:(execOp (Act.eval ⟨tm,ds⟩) o).run P w=.ok (.round pl.c fn tmr as bd) w:=by
   have hargs':(#[]:Array aaa)++cargs.map (Act.eval ⟨tm,ds⟩)=(cargs.toList.map (Act.eval ⟨tm,ds⟩)).toArray:=by apply abY;simp
   simp only[execOp,yk,resolve,hfv,Deferred.ofValue,aah,aal,aac,invoke,hargs',hy]
  obtain⟨v,v',h',ρ',w1,hR,st,hv,hgo⟩:=hgo (vB b tm ds (.inRegion ops (i::rest)::k)) cs;obtain⟨s1,hp,hrest⟩:=ht v h' hR;have hs1:vG ρ' s1 (qo tm o.dst v'):=(hs.mono st.le).put hv hp;obtain⟨s2,h2,ρ2,w2,tm2,q,st2,hs2,sx⟩:=hrest ρ' w1 _ ds st.rel hs1 b k cs;have hd:Xv o.op=false:=by rw[yk];rfl
  refine⟨s2,h2,ρ2,w2,tm2,q,st.trans st2,hs2,.head (pj ho hw' hd hrun) (abT hgo ?_)⟩;rw[jB,ho];exact sx
theorem Step.more{ρ:xo}{h:za}{w w':World}(hr:Rel P ρ h w){o:Obj}(hw:w' = {w with heap:=w.heap.push o}):Step P ρ h w ρ h w':=by
 subst hw;have hold:∀k,k<w.heap.size->(w.heap.push o)[k]? = w.heap[k]?:=λk hk=>by rw[Array.getElem?_push,aag (by omega)]
 exact⟨xo.le_refl _,hr.grow hold,rfl,rfl,rfl,rfl,by simp,λk hk _=>hold k hk,λ_ _ h=>h⟩
theorem run_newObj(w:World)(o:Obj):(newObj o).run P w=.ok w.heap.size {w with heap:=w.heap.push o}:=rfl
theorem il{rd:Option Nat}{f:Operand}{params:Array Tmp}{as bd:Code}{s:Env}{h:za}{g:FuncId}{fa fc:Array aaa}{Q:Ex->Env->za->Prop}
  (hf:kG s f=some (.func (.func g) fa fc)) (hcall:xS P g=true) (hrd:∀L,rd=some L->∃A,h.get L=some (.loop A))
  (hc:TC P g (fa.toList++[.func (.yield h.next) #[] #[]]++fc.toList) (h.push (.loop {state := .ready,pending:=none,s:=s,params:=params,assign:=as,body:=bd}))
   (λ_ h1=>∃A,h1.get h.next=some (.loop A)/\(A.state == .busy)=false/\h1.ro<=h.next /\ ∃e,Xk e=A.pending/\Q e s (h1.set h.next none))):T P rd (.rangeFunc f params as bd) s h Q:=by
 intro ρ w tm ds hr hs b hb k cs
 let A0:aJ:={state := .ready,pending:=none,s:=s,params:=params,assign:=as,body:=bd}
 obtain⟨mark,d,w1,hrun,st1,hd1⟩:∃mark d w1,(Instr.enterLoop b.fn tm params as bd b.roundOf).run P w=.ok (w1.heap.size,mark) {w1 with heap:=w1.heap.push (.loop (Ui A0 tm d b.fn))} /\ Step P ρ h w ρ h w1/\Kq w ds w1 (mark++ds):=by
  cases rd with
  |none=>
   have hb:b.roundOf=none:=hb;refine⟨[EA w.heap.size],w.heap.size,{w with heap:=w.heap.push (.deferred (some []))},?_,Step.more hr rfl,[w.heap.size],rfl,by simp,λr hr'=>?_⟩
   ·simp only[Instr.enterLoop,hb,aah,run_newObj,aac,aal];rfl
   ·simp only[aaq]at hr';subst hr';exact⟨aaj _,by simp⟩
  |some L0=>
   obtain⟨hL,pl,hm,hb⟩:=hb;obtain⟨A,gA⟩:=hrd L0 rfl;obtain⟨tmA,dA,fnA,hoA,_⟩:=hr.loop gA hm;refine⟨[],dA,w,?_,.refl hr,.refl _ _ _⟩;simp only[Instr.enterLoop,hb,aah,X1 hoA,run_newObj,aac,aal];rfl
 let pl:Place:=⟨w1.heap.size,0,0,0⟩
 have stp:Step P ρ h w1 (ρ.ext pl) (h.push (.loop A0)) {w1 with heap:=w1.heap.push (.loop (Ui A0 tm d b.fn))} :=
  Step.au st1.rel (ob := .loop A0) (pl:=pl) rfl rfl ⟨tm,d,b.fn,by simp[pl,Ui],hs.mono (ρ.gV pl)⟩ rfl rfl rfl
 have hnew:(ρ.ext pl).m h.next=some pl:=by rw[<- hr.next];exact ρ.ko pl
 have hlt:h.next<(ρ.ext pl).next:=by show h.next<ρ.next+1;rw[hr.next];omega
 have e1:=zY (a:=⟨tm,ds⟩) (hs.mono (ρ.gV pl)) hf;generalize hfv:Act.eval ⟨tm,ds⟩ f=fv at e1;cases e1 with
 |func ha hcs k1 k2=>
  rename_i fa' fc'
  let yl:aaa := .func (.yield w1.heap.size) #[] #[]
  let full:=fa'.toList++[yl]++fc'.toList
  have hyl:zH (ρ.ext pl) (.func (.yield h.next) #[] #[]) yl := .yield (pl:=pl) hlt hnew
  have hfull:wG (ρ.ext pl) (fa.toList++[.func (.yield h.next) #[] #[]]++fc.toList) full :=
   (wG.append ⟨by simpa using ha,λi x y hx hy=>k1 i x y (by simpa using hx) (by simpa using hy)⟩ (.cons hyl (.nil _))).append ⟨by simpa using hcs,λi x y hx hy=>k2 i x y (by simpa using hx) (by simpa using hy)⟩
  have hrun2:(do let d <- resolve (Act.eval ⟨tm,ds⟩) {callee := .value f,args := #[.const yl],argTypes := #[]} 0;invoke d.target d.args:Sem Next).run P {w1 with heap:=w1.heap.push (.loop (Ui A0 tm d b.fn))} = .ok (.enter g full.toArray) {w1 with heap:=w1.heap.push (.loop (Ui A0 tm d b.fn))}:=by
   have hargs':fa'++(#[.const yl]:Array Operand).map (Act.eval ⟨tm,ds⟩)++fc'=full.toArray:=by apply abY;simp[full];rfl
   simp only[resolve,hfv,Deferred.ofValue,aah,aal,aac,invoke,callFunc,run_program,hargs'];unfold xS at hcall;cases hfn:P.funcs[g]? with
   |none=>rw[hfn]at hcall;cases hcall
   |some fn=>
    rw[hfn]at hcall;simp only[aad,aan]at hcall;simp only[hcall.2,aa9,ab1];rw[aag (by cases hb:fn.body <;> simp_all)];rfl
  obtain⟨e,w3,fr,⟨v,v',h',ρ',rfl,⟨A,gA,nb,roA,ex,hj,q⟩,st,hv⟩,hcomes,_,hleave⟩:=hc (ρ.ext pl) _ full stp.rel hfull (vB b tm (mark++ds) (.inRangeFunc w1.heap.size::k)::cs);have hm':ρ'.m h.next=some pl:=(st.le.2 _ hlt).trans hnew;obtain⟨tmA,dA,fnA,hoA,hsA⟩:=st.rel.loop gA hm';have stt:=Step.zaO st.rel gA hm' roA (A':={A with state := .exhausted}) hoA hsA;have std:=Step.GA stt.rel h.next;have sta:=(((stp.trans st).trans stt).trans std).same (h'':=h'.set h.next none) ⟨rfl,rfl,λx=>by rw[za.set_set]⟩;refine⟨ex,s,h'.set h.next none,ρ',_,tm,mark++ds,q,st1.trans sta,hs.mono (st1.trans sta).le,hd1.trans (.refl _ _ _) st1.size st1.rel sta,?_⟩
  have harr:Steps P (lone (vB b tm ds (.code (.rangeFunc f params as bd)::k)) cs w) (lone (vB b tm (mark++ds) ((A.pending.map Item.code).toList++k)) cs {w3 with heap:=w3.heap.setIfInBounds pl.c (.loop (Ui {A with state := .exhausted} tmA dA fnA))}) :=
   .head (lH hrun hrun2) (abT hcomes (.head (step_leave_returned hleave) (.one (cF (E2 hoA nb)))))
  have hp:(A.pending.map Item.code).toList=((Xk ex).map Item.code).toList:=by rw[hj]
  rw[hp]at harr;cases ex with
  |normal=>exact harr
  |ret=>exact⟨k,harr⟩
  |exit id=>exact⟨k,rfl,harr⟩
end
noncomputable section
inductive Task where
 |code (rd:Option Nat) (c:Code) (s:Env)
 |call (f:FuncId) (args:List aaa)
inductive Out where
 |ex (e:Ex) (s:Env)
 |val (v:aaa)
abbrev YX:=Task->za->Option (Out×za)
def wS(h h2:za):za := @za.rec (λ_=>za) (λt n r=>@za.rec (λ_=>za) (λt2 n2 _=>⟨(List.range' n (n2-n)).foldl (λt b=>t.set b (t2.get b)) t,n2,r⟩) h2) h
def DV(cls:List Nat)(rec:YX)(g:FuncId)(args:List aaa)(h:za):Option (aaa×za) :=
 match cls.getD g 0 with
 |1=>(match rec (.call g args) h with
  |some (.val v,h')=>some (v,h')
  |_=>none)
 |2=>(match rec (.call g args) h.lock with
  |some (.val v,_)=>cond (hZ v) (some (v,h)) none
  |_=>none)
 |3=>(match rec (.call g args) h.lock with
  |some (.val v,h2)=>some (v,wS h h2)
  |_=>none)
 |_=>none
def zad:Ex->Bool
 | .normal=>true
 |_=>false
def isReady:LoopState->Bool
 | .ready=>true
 |_=>false
def Rk:LoopState->Bool
 | .busy=>false
 |_=>true
def ri(rec:YX)(L:Nat)(args:List aaa)(h:za):Option (aaa×za) :=
 match h.get L with
 |some (.loop A)=>(match X0 A.params.toList args A.s with
  |some s0=>(match rec (.code (some L) A.assign s0) h with
   |some (.ex .normal s1,h1)=>(match h1.get L with
    |some (.loop A1)=>cond (isReady A1.state&&Nat.ble h1.ro L)
      (match rec (.code (some L) A.body s1) (h1.set L (some (.loop {A1 with state := .busy}))) with
       |some (.ex e _,h2)=>(match h2.get L with
        |some (.loop A2)=>cond (Nat.ble h2.ro L) (some (.bool (zad e),h2.set L (some (.loop (A2.left e))))) none
        |_=>none)
       |_=>none) none
    |_=>none)
   |_=>none)
  |none=>none)
 |_=>none
def T3:Option Code->Option Ex
 |none=>some .normal
 |some .ret=>some .ret
 |some (.exit id)=>some (.exit id)
 |_=>none
def re(cls:List Nat)(rec:YX)(rd:Option Nat)(f:Option aaa)(params:Array Tmp)(as bd:Code)(s:Env)(h:za):Option (Ex×za) :=
 match f with
 |some (.func (.func g) fa fc)=>cond (Nat.beq (cls.getD g 0) 1&&(match rd with
   |none=>true
   |some L0=>(match h.get L0 with
    |some (.loop _)=>true
    |_=>false)))
   (match rec (.call g (fa.toList++[.func (.yield h.next) #[] #[]]++fc.toList)) (h.push (.loop {state := .ready,pending:=none,s:=s,params:=params,assign:=as,body:=bd})) with
    |some (.val _,h1)=>(match h1.get h.next with
     |some (.loop A)=>cond (Rk A.state&&Nat.ble h1.ro h.next)
       (match T3 A.pending with
        |some e=>some (e,h1.set h.next none)
        |none=>none) none
     |_=>none)
    |_=>none) none
 |_=>none
def evalOp(P:Program)(cls:List Nat)(rec:YX)(s:Env)(o:Oper)(h:za):Option (aaa×za) :=
 match o.op with
 | .call {callee := .value f,args,argTypes}=>(match kG s f,Vq s args.toList with
   |some (.func (.func g) fa fc),some vs=>cond (Nat.beq (cls.getD g 0) 0) (Bh P g (fa.toList++vs++fc.toList) h) (DV cls rec g (fa.toList++vs++fc.toList) h)
   |some (.func (.yield L) fa fc),some vs=>cond (Nat.beq fa.size 0&&Nat.beq fc.size 0) (ri rec L vs h) none
   |_,_=>none)
 |_=>Um P s o h
def QX(P:Program)(cls:List Nat)(rec:YX)(ops:Array Oper):List Oper->Env->za->Option (Env×za)
 |[],s,h=>some (s,h)
 |o::os,s,h=>
  cond (yq ops s o)
   (match evalOp P cls rec s o h with
    |some (v,h1)=>(match s.put o.dst v with
     |some s1=>QX P cls rec ops os s1 h1
     |none=>none)
    |none=>none)
   (match s.put o.dst undef with
    |some s1=>QX P cls rec ops os s1 h
    |none=>none)
structure lA where
 r:yr
 Fb:List Nat
 all:Bool
 bk:Bool
 rdl:List Nat
 ex:Bool
def yz(ms:List Nat)(o:Oper):Nat:=o.after.toList.foldl (λm e=>cond (Region.binds .any e) (m ||| (1 <<< e.on) ||| ms.getD e.on 0) m) 0
def kU(ops:Array Oper)(x y:Oper):Bool :=
 (match x.dst with
  |none=>true
  |some d => !(y.looksAt ops).contains d && !(decide (y.dst=some d))) &&
 (match y.dst with
  |none=>true
  |some d => !(x.looksAt ops).contains d)
def px(x y:lA):Bool :=
 cond x.all (y.bk||(y.ex && !y.all&&y.rdl.all (λb => !x.r.tc b)&&y.Fb.all (λb => !x.r.tc b))) (x.Fb.all λb => !y.r.rd b && !y.r.tc b) &&
 cond y.all (x.bk||(x.ex&&x.rdl.all λb => !y.r.tc b)) (y.Fb.all λb => !x.r.rd b)
def Zn(ops:Array Oper):List Oper->Nat->List Nat->List (Nat×Oper)->Bool
 |[],_,_,_=>true
 |o::os,i,ms,prev=>
  (o.after.toList.all λe => !(Region.binds .any e)||Nat.blt e.on i)&&(prev.all λx=>(yz ms o).testBit x.1||kU ops x.2 o)&&Zn ops os (i+1) (ms++[yz ms o]) ((i,o)::prev)
def SU:aaa->List Nat
 | .pointer (some a)=>[a.block]
 | .slice (some a) _ _=>[a.block]
 | .map (some b)=>[b]
 |_=>[]
def Ao:Op->Bool
 | .call {callee := .builtin .cap,.. } | .call {callee := .builtin .min,.. } | .call {callee := .builtin .max,.. } | .call {callee := .builtin .unsafeSliceData,.. }=>false
 | .move _ | .assign _ | .pick _ _ _ | .alloc _ | .box _ _ | .build _ _ | .nilCheck _ | .binOp _ _ _ _ _ | .unOp _ _ _ | .makeInterface _ _ | .makeFunc _ _ _ | .fieldAddr _ _ _ | .field _ _ _ | .indexAddr _ _ _ | .index _ _ _ | .extract _ _=>false
 |_=>true
def FN(h:za)(b:Nat):List Nat :=
 match h.get b with
 |some (.iter (some m) _ _ _)=>[b,m]
 |_=>[b]
def OL(s:Env)(o:Oper)(h:za):List Nat:=cond (Ao o.op) ((o.op.operands.toList.flatMap λx=>(match kG s x with|some v=>SU v|none=>[])).flatMap (FN h)) []
def za.pick(h:za)(l:List Nat):za := @za.rec (λ_=>za) (λt0 n r=>⟨l.foldl (λt b=>t.set b (t0.get b)) .e,n,r⟩) h
def za.YD(h:za)(l:List Nat):za := @za.rec (λ_=>za) (λt0 n r=>⟨l.foldl (λt b=>t.set b none) t0,n,r⟩) h
def za.Rg(h g:za)(l:List Nat):za := @za.rec (λ_=>za) (λt0 _ r=>@za.rec (λ_=>za) (λt1 n _=>⟨l.foldl (λt b=>t.set b (t1.get b)) t0,n,r⟩) g) h
def za.cT(h' h:za)(l:List Nat):za := @za.rec (λ_=>za) (λt0 n r=>⟨l.foldl (λt b=>t.set b (h.get b)) t0,n,r⟩) h'
def ey(s:Env)(dsts:List Nat):List Oper->Nat->Nat->List Nat
 |[],_,_=>[]
 |o::os,j,desc=>cond (o.after.toList.any λe=>Region.binds .any e&&desc.testBit e.on)
  (ey s dsts os (j+1) (desc ||| (1 <<< j)))
  ((cond (Ao o.op) (o.op.operands.toList.flatMap λx=>(match x with
    | .tmp t=>cond (dsts.contains t) [] (SU (s.get t))
    |_=>[])) [])++ey s dsts os (j+1) desc)
def Xp:Builtin->Bool
 | .len | .cap | .min | .max | .unsafeSliceData=>true
 |_=>false
def Xw:Op->Bool
 | .call {callee := .builtin b,.. } => !Xp b
 | .store _ _ _=>true
 | .mapUpdate _ _ _ _=>true
 | .next _ _=>true
 | .call _=>true
 |_=>false
def oY(P:Program)(cls:List Nat)(rec:YX)(ops:Array Oper)(recs:List lA)(mask i:Nat)(os:List Oper)(o:Oper)(s:Env)(h:za):Option (lA×za) :=
 cond (yq ops s o)
  (match o.op with
   | .call {callee := .value f,args,argTypes}=>(match kG s f,Vq s args.toList with
     |some (.func (.func g) fa fc),some vs=>
      (match cls.getD g 0 with
       |1=>
        let hid:=((recs.flatMap λx=>cond (mask.testBit x.r.j) [] (x.Fb++x.rdl))++ey s ((o::os).filterMap (·.dst)) os (i+1) (1 <<< i)).filter λb=>Nat.blt b h.next
        (match rec (.call g (fa.toList++vs++fc.toList)) (h.YD hid) with
         |some (.val v,h')=>some (⟨⟨i,o,v,s,h.YD hid,h',λb=>Nat.blt b h.next && !hid.contains b,λb=>Nat.blt b h'.next && !hid.contains b⟩,[],true,false,[],false⟩,h'.cT h hid)
         |_=>none)
       |2=>
        let hid:=recs.flatMap λx=>cond (mask.testBit x.r.j) [] x.Fb
        (match rec (.call g (fa.toList++vs++fc.toList)) (h.YD hid).lock with
         |some (.val v,_)=>cond (hZ v) (some (⟨⟨i,o,v,s,h.YD hid,h.YD hid,λb=>Nat.blt b h.next && !hid.contains b,λ_=>false⟩,[],false,false,[],false⟩,h)) none
         |_=>none)
       |3=>
        let hid:=recs.flatMap λx=>cond (mask.testBit x.r.j) [] x.Fb
        (match rec (.call g (fa.toList++vs++fc.toList)) (h.YD hid).lock with
         |some (.val v,h2)=>
          let new:=List.range' h.next (h2.next-h.next)
          some (⟨⟨i,o,v,s,h.YD hid,wS (h.YD hid) h2,λb=>Nat.blt b h.next && !hid.contains b,λb=>new.contains b⟩,new,false,false,[],false⟩,wS h h2)
         |_=>none)
       |_=>(match Bh P g (fa.toList++vs++fc.toList) (h.pick []) with
        |some (v,g')=>
         let new:=List.range' h.next (g'.next-h.next)
         some (⟨⟨i,o,v,s,h.pick [],g',λ_=>false,λb=>new.contains b⟩,new,false,new.isEmpty,[],true⟩,h.Rg g' new)
        |none=>none))
     |_,_=>none)
   |_=>
    let bs:=OL s o h
    (match Um P s o (h.pick bs) with
     |some (v,g')=>
      let new:=List.range' h.next (g'.next-h.next)
      let Fb:=cond (Xw o.op) (bs++new) new
      some (⟨⟨i,o,v,s,h.pick bs,g',λb=>bs.contains b,λb=>Fb.contains b⟩,Fb,false,bs.isEmpty&&Fb.isEmpty,bs,true⟩,h.Rg g' Fb)
     |none=>none))
  (some (⟨⟨i,o,undef,s,h.pick [],h.pick [],λ_=>false,λ_=>false⟩,[],false,true,[],true⟩,h))
def QK(P:Program)(cls:List Nat)(rec:YX)(ops:Array Oper):List Oper->Nat->List Nat->List lA->Env->za->Option (Env×za)
 |[],_,_,_,s,h=>some (s,h)
 |o::os,i,ms,recs,s,h=>
  (match oY P cls rec ops recs (yz ms o) i os o s h with
   |some (y,h1)=>cond (y.bk||recs.all λx=>px x y||(yz ms o).testBit x.r.j)
     (match s.put o.dst y.r.v with
      |some s1=>QK P cls rec ops os (i+1) (ms++[yz ms o]) (y::recs) s1 h1
      |none=>none) none
   |none=>none)
def body(P:Program)(cls:List Nat)(rec:YX):Task->za->Option (Out×za)
 | .call f args,h=>(match P.funcs[f]? with
   |none=>none
   |some fn=>(match fn.body with
    |none=>none
    |some c=>(match rec (.code none c (Env.enter args fn.ntmps)) h with
     |some (.ex .normal s1,h1)=>(match qF P s1 h1 fn.results.toList with
      |some vs=>some (.val (xV vs),h1)
      |none=>none)
     |some (.ex .ret s1,h1)=>(match qF P s1 h1 fn.results.toList with
      |some vs=>some (.val (xV vs),h1)
      |none=>none)
     |_=>none)))
 | .code rd c s,h=>(match c with
   | .skip=>some (.ex .normal s,h)
   | .label _=>some (.ex .normal s,h)
   | .exit id=>some (.ex (.exit id) s,h)
   | .ret=>some (.ex .ret s,h)
   | .seq a b=>(match rec (.code rd a s) h with
     |some (.ex .normal s1,h1)=>rec (.code rd b s1) h1
     |r=>r)
   | .cond x a b=>(match kG s x with
     |some (.bool true)=>rec (.code rd a s) h
     |some (.bool false)=>rec (.code rd b s) h
     |_=>none)
   | .block id a=>(match rec (.code rd a s) h with
     |some (.ex (.exit id') s1,h1)=>cond (Nat.beq id' id) (some (.ex .normal s1,h1)) (some (.ex (.exit id') s1,h1))
     |r=>r)
   | .scope a=>rec (.code rd a s) h
   | .loop a=>(match rec (.code rd a s) h with
     |some (.ex .normal s1,h1)=>rec (.code rd (.loop a) s1) h1
     |r=>r)
   | .region _ ops draw=>cond draw
     (cond (Zn ops ops.toList 0 [] []) (match QK P cls rec ops ops.toList 0 [] [] s h with
      |some (s1,h1)=>some (.ex .normal s1,h1)
      |none=>none) none)
     (match QX P cls rec ops ops.toList s h with
      |some (s1,h1)=>some (.ex .normal s1,h1)
      |none=>none)
   | .rangeFunc f params as bd=>(match re cls rec rd (kG s f) params as bd s h with
     |some (e,h1)=>some (.ex e s,h1)
     |none=>none)
   |_=>none)
def run(P:Program)(cls:List Nat)(n:Nat):YX:=Nat.rec (λ_ _=>none) (λ_ rec=>body P cls rec) n
end
noncomputable section
variable {P:Program}{cls:List Nat}
theorem jO{α:Type}(f:Nat->Option α)(j:Nat):∀(l:List Nat) (t:Tr α),(l.foldl (λt b=>t.set b (f b)) t).get j=if j∈l then f j else t.get j
 |[],t=>by simp
 |b::l,t=>by
  rw[acm,jO f j l,Tr.yy];by_cases h:j∈l
  ·simp[h]
  ·by_cases e:j=b
   ·subst e;simp[h]
   ·simp[h,e]
theorem uq(h:za)(l:List Nat)(b:Nat):(h.pick l).get b=if b∈l then h.get b else none:=by
 show(l.foldl (λt b=>t.set b (h.get b)) Tr.e).get b=_;rw[jO];rfl
theorem uP(h:za)(l:List Nat)(b:Nat):(h.YD l).get b=if b∈l then none else h.get b:=by
 show(l.foldl (λt b=>t.set b none) h.t).get b=_;rw[jO (λ_=>none)];rfl
theorem Jf(h g:za)(l:List Nat)(b:Nat):(h.Rg g l).get b=if b∈l then g.get b else h.get b:=by
 show(l.foldl (λt b=>t.set b (g.get b)) h.t).get b=_;rw[jO];rfl
theorem Zj(h' h:za)(l:List Nat)(b:Nat):(h'.cT h l).get b=if b∈l then h.get b else h'.get b:=by
 show(l.foldl (λt b=>t.set b (h.get b)) h'.t).get b=_;rw[jO];rfl
theorem jU{a c b:Nat}:b∈List.range' a (c-a) ↔ a<=b/\b<c:=by
 rw[List.mem_range'_1];omega
theorem wO(h h2:za)(b:Nat):(wS h h2).get b=if h.next<=b/\b<h2.next then h2.get b else h.get b:=by
 show((List.range' h.next (h2.next-h.next)).foldl (λt b=>t.set b (h2.get b)) h.t).get b=_;rw[jO];by_cases hb:h.next<=b/\b<h2.next
 ·rw[aai (jU.2 hb),aai hb]
 ·rw[aag (λhm=>hb (jU.1 hm)),aag hb];rfl
theorem TC.fresh{f:FuncId}{args:List aaa}{h h2:za}{v:aaa}(ht:TC P f args h.lock (λv1 h1=>v1=v/\h1=h2)):TC P f args h (λv1 h1=>v1=v/\h1=wS h h2):=by
 intro ρ w cargs hr hv;refine(ht ρ w cargs hr.lock hv).mono λe w'=>?_;rintro⟨v1,v',h',ρ',e1,⟨rfl,rfl⟩,st,hvv⟩
 have nomine:∀c,¬mq ρ h.lock c:=by
  rintro c ⟨b,o,pl,hg,hro,_⟩;have h1:h.next<=b:=hro;have h2:=hr.Ko b o hg;omega
 have hsame:∀c,c<w.heap.size->w'.heap[c]? = w.heap[c]?:=λc hc=>st.frame c hc (nomine c);have hn:h.next<=h'.next:=by have:=st.le.1;rw[hr.next,st.rel.next]at this;exact this
 have hold:∀b,b<h.next->ρ'.m b=ρ.m b:=λb hb=>st.le.2 b (by rw[hr.next];exact hb)
 have cases':∀b o,(wS h h').get b=some o->(h.next<=b/\b<h'.next/\h'.get b=some o)\/(b<h.next/\h.get b=some o):=by
  intro b o hg;rw[wO]at hg;split at hg
  ·rename_i hb;exact .inl ⟨hb.1,hb.2,hg⟩
  ·exact .inr ⟨hr.Ko b o hg,hg⟩
 refine⟨v1,v',wS h h',ρ',e1,⟨rfl,rfl⟩,⟨st.le,⟨st.rel.next,aaV hr.ro hn,?_,?_,?_,hr.lh,st.rel.Yn⟩,rfl,st.os,st.tape,st.output,st.size,λc hc _=>hsame c hc,?_⟩,hvv⟩
 ·intro b o hg;rcases cases' b o hg with⟨_,h2,_⟩|⟨h1,_⟩
  ·exact h2
  ·exact aap h1 hn
 ·intro b o hg;rcases cases' b _ hg with⟨h1,h2,h3⟩|⟨h1,h3⟩
  ·obtain⟨pl,hp,hc⟩:=st.rel.ok b o h3;refine⟨pl,hp,hc.Mr (λ_=>?_)⟩;rw[st.ro];exact aaY h1
  ·obtain⟨pl,hp,hc⟩:=hr.ok b o h3;exact⟨pl,(hold b h1).trans hp,(hc.mono st.le).other (hsame _ hc.lt)⟩
 ·have key:∀b1 b2 o1 o2 p1 p2,h.next<=b1->h'.get b1=some o1->b2<h.next->h.get b2=some o2->ρ'.m b1=some p1->ρ'.m b2=some p2->p1.c=p2.c->False:=by
   intro b1 b2 o1 o2 p1 p2 l1 g1 l2 g2 m1 m2 ec;obtain⟨pl,hp,hc⟩:=hr.ok b2 o2 g2;rw[hold b2 l2,hp]at m2;cases m2;have:=st.l9 p1.c (by rw[ec];exact hc.lt) ⟨b1,o1,p1,g1,by rw[st.ro];exact l1,m1,rfl⟩;exact nomine _ this
  intro b1 b2 o1 o2 p1 p2 g1 g2 m1 m2 ec;rcases cases' b1 o1 g1 with⟨l1,_,k1⟩|⟨l1,k1⟩ <;> rcases cases' b2 o2 g2 with⟨l2,_,k2⟩|⟨l2,k2⟩
  ·exact st.rel.inj b1 b2 o1 o2 p1 p2 k1 k2 m1 m2 ec
  ·exact(key b1 b2 o1 o2 p1 p2 l1 k1 l2 k2 m1 m2 ec).elim
  ·exact(key b2 b1 o2 o1 p2 p1 l2 k2 l1 k1 m2 m1 ec.symm).elim
  ·rw[hold b1 l1]at m1;rw[hold b2 l2]at m2;exact hr.inj b1 b2 o1 o2 p1 p2 k1 k2 m1 m2 ec
 ·rintro c hc ⟨b,o,pl,hg,hro,hm,rfl⟩;rcases cases' b o hg with⟨l1,_,k1⟩|⟨l1,k1⟩
  ·exact(nomine _ (st.l9 pl.c hc ⟨b,o,pl,k1,by rw[st.ro];exact l1,hm,rfl⟩)).elim
  ·rw[hold b l1]at hm;exact⟨b,o,pl,k1,hro,hm,rfl⟩
def ZV(P:Program)(cls:List Nat):Bool:=(List.range cls.length).all λg=>Nat.beq (cls.getD g 0) 0||xS P g
theorem Zh{g:FuncId}{k:Nat}(hC:ZV P cls=true)(h:cls.getD g 0=k+1):xS P g=true:=by
 simp only[ZV,aaD,abe,aaW]at hC
 have hg:g<cls.length:=by
  rcases aaL g cls.length with h1|h1
  ·exact h1
  ·rw[abd,aat h1]at h;cases h
 rcases hC g hg with h1|h1
 ·rw[h]at h1;cases h1
 ·exact h1
structure Sound (P:Program) (rec:YX):Prop where
 code:∀rd c s h e s' h',rec (.code rd c s) h=some (.ex e s',h')->T P rd c s h (λe1 s1 h1=>e1=e/\s1=s'/\h1=h')
 call:∀f args h v h',rec (.call f args) h=some (.val v,h')->TC P f args h (λv1 h1=>v1=v/\h1=h')
 kind:∀rd c s h o h',rec (.code rd c s) h=some (o,h')->∃e s',o=.ex e s'
 zc6:∀f args h o h',rec (.call f args) h=some (o,h')->∃v,o=.val v
theorem DW{rec:YX}(S:Sound P rec)(hC:ZV P cls=true){g:FuncId}{args:List aaa}{h h':za}{v:aaa}(he:DV cls rec g args h=some (v,h')) :
  xS P g=true/\TC P g args h (λv1 h1=>v1=v/\h1=h'):=by
 unfold DV at he;split at he
 ·rename_i hk;refine⟨Zh hC hk,?_⟩;split at he
  ·rename_i v1 h1 hrec;simp only[aab,aae]at he;obtain⟨rfl,rfl⟩:=he;exact S.call _ _ _ _ _ hrec
  ·cases he
 ·rename_i hk;refine⟨Zh hC hk,?_⟩;split at he
  ·rename_i v1 h1 hrec;obtain⟨hsc,he⟩:=zo he;simp only[aab,aae]at he;obtain⟨rfl,rfl⟩:=he;refine((S.call _ _ _ _ _ hrec).quiet (λv2 h2 q=>by rw[q.1];exact hsc)).mono ?_;rintro v2 h2 ⟨⟨h3,q1,q2⟩,rfl⟩;exact⟨q1,rfl⟩
  ·cases he
 ·rename_i hk;refine⟨Zh hC hk,?_⟩;split at he
  ·rename_i v1 h2 hrec;simp only[aab,aae]at he;obtain⟨rfl,rfl⟩:=he;exact(S.call _ _ _ _ _ hrec).fresh
  ·cases he
 ·cases he
theorem B6{rec:YX}(S:Sound P rec){L:Nat}{args:List aaa}{h h':za}{v:aaa}(he:ri rec L args h=some (v,h')):TY P L args h (λv1 h1=>v1=v/\h1=h'):=by
 unfold ri at he;split at he
 case h_2=>cases he
 rename_i A hg;split at he
 case h_2=>cases he
 rename_i s0 hs0;split at he
 case h_2=>cases he
 rename_i s1 h1 hrec;split at he
 case h_2=>cases he
 rename_i A1 g1;obtain⟨hc,he⟩:=zo he;simp only[aad]at hc;split at he
 case h_2=>cases he
 rename_i e s2 h2 hrec2;split at he
 case h_2=>cases he
 rename_i A2 g2;obtain⟨hro,he⟩:=zo he;simp only[aab,aae]at he;obtain⟨rfl,rfl⟩:=he;refine Pw hg hs0 ((S.code _ _ _ _ _ _ _ hrec).mono ?_);rintro e1 s3 h3 ⟨rfl,rfl,rfl⟩;refine⟨rfl,A1,g1,?_,aaE hc.2,(S.code _ _ _ _ _ _ _ hrec2).mono ?_⟩
 ·cases hst:A1.state <;> first|rfl|(rw[hst]at hc;cases hc.1)
 ·rintro e1 s3 h3 ⟨rfl,rfl,rfl⟩;refine⟨A2,g2,aaE hro,?_,rfl⟩;cases e1 <;> rfl
theorem Es{p:Option Code}{e:Ex}(h:T3 p=some e):Xk e=p:=by
 unfold T3 at h;split at h <;> first|(simp only[aab]at h;subst h;rfl)|cases h
theorem BZ{rec:YX}(S:Sound P rec)(hC:ZV P cls=true){rd:Option Nat}{f:Operand}{params:Array Tmp}{as bd:Code}{s:Env}{h h':za}{e:Ex}(he:re cls rec rd (kG s f) params as bd s h=some (e,h')) :
  T P rd (.rangeFunc f params as bd) s h (λe1 s1 h1=>e1=e/\s1=s/\h1=h'):=by
 unfold re at he;split at he
 case h_2=>cases he
 rename_i g fa fc hf;obtain⟨hc,he⟩:=zo he;simp only[aad]at hc;split at he
 case h_2=>cases he
 rename_i v h1 hrec;split at he
 case h_2=>cases he
 rename_i A hA;obtain⟨hb,he⟩:=zo he;simp only[aad]at hb;split at he
 case h_2=>cases he
 rename_i e1 hex;simp only[aab,aae]at he;obtain⟨rfl,rfl⟩:=he;refine il hf (Zh (k:=0) hC (aak hc.1)) ?_ ((S.call _ _ _ _ _ hrec).mono ?_)
 ·rintro L rfl;have:=hc.2;simp only at this;split at this
  ·rename_i A0 g0;exact⟨A0,g0⟩
  ·cases this
 ·rintro v1 h2 ⟨rfl,rfl⟩;refine⟨A,hA,?_,aaE hb.2,e1,Es hex,rfl,rfl,rfl⟩;cases hst:A.state <;> first|rfl|(rw[hst]at hb;cases hb.1)
theorem QY{rec:YX}(S:Sound P rec)(hC:ZV P cls=true){ops:Array Oper}:∀(l:List Oper) (i:Nat) {s s':Env} {h h':za},ops.toList.drop i=l->QX P cls rec ops l s h=some (s',h') ->
  TO P ops (List.range' i l.length) s h (λs1 h1=>s1=s'/\h1=h')
 |[],i,s,s',h,h',hl,he=>by
  simp only[QX,aab,aae]at he;exact MF ⟨he.1,he.2⟩
 |o::os,i,s,s',h,h',hl,he=>by
  have ho:ops[i]? = some o:=by
   have:=congrArg (λl=>l[0]?) hl;simp only[aaS,aay]at this;simpa using this
  have hl':ops.toList.drop (i+1)=os:=by rw[<- aci,hl];rfl
  rw[aa3,List.range'_succ];simp only[QX]at he;cases hw:yq ops s o with
  |false=>
   rw[hw]at he;simp only[aaB]at he;split at he
   ·rename_i s1 hp;exact G0 ho hw hp (QY S hC os (i+1) hl' he)
   ·cases he
  |true=>
   rw[hw]at he;simp only[aav]at he;split at he
   ·rename_i v h1 hev;split at he
    ·rename_i s1 hp;have hrest:=QY S hC os (i+1) hl' he;unfold evalOp at hev;split at hev
     ·rename_i f args ts yk;split at hev
      ·rename_i g fa fc vs hf hargs;cases hk:Nat.beq (cls.getD g 0) 0 with
       |true=>
        rw[hk]at hev;simp only[aav]at hev;exact Sm ho hw (by rw[yk];rfl) (λρ w a hr hs=>Bi yk hf hargs hev hr hs) hp hrest
       |false=>
        rw[hk]at hev;simp only[aaB]at hev;obtain⟨h1c,h2c⟩:=DW S hC hev;exact GZ ho hw yk hf hargs h1c h2c (by rintro v2 h2 ⟨rfl,rfl⟩;exact⟨s1,hp,hrest⟩)
      ·rename_i L fa fc vs hf hargs;obtain⟨hz,hev⟩:=zo hev;simp only[aad]at hz;obtain rfl:=VP hz.1;obtain rfl:=VP hz.2;exact Cp ho hw yk hf hargs (B6 S hev) (by rintro v2 h2 ⟨rfl,rfl⟩;exact⟨s1,hp,hrest⟩)
      ·cases hev
     ·exact Sn ho hw hev hp hrest
    ·cases he
   ·cases he
end
noncomputable section
variable {P:Program}{cls:List Nat}
structure AF (h h':za):Prop where
 next:h.next<=h'.next
 ro:h'.ro=h.ro
 alive:∀b o,h'.get b=some o->h.get b≠none\/(h.next<=b/\b<h'.next)
theorem AF.refl(h:za):AF h h:=⟨aaj _,rfl,λb o hb => .inl (by rw[hb];simp)⟩
theorem AF.trans{a b c:za}(h:AF a b)(k:AF b c):AF a c:=by
 refine⟨aaV h.next k.next,k.ro.trans h.ro,λx o hx=>?_⟩;rcases k.alive x o hx with h1|⟨h1,h2⟩
 ·obtain⟨o',ho'⟩:∃o,b.get x=some o:=by cases hh:b.get x with|none=>exact absurd hh h1|some o=>exact⟨o,rfl⟩
  rcases h.alive x o' ho' with h2|⟨h2,h3⟩
  ·exact .inl h2
  ·exact .inr ⟨h2,aap h3 k.next⟩
 ·exact .inr ⟨aaV h.next h1,h2⟩
theorem AF.push(h:za)(o:vl):AF h (h.push o):=⟨abI _,rfl,λb o' hb=>by
 rw[za.vT]at hb;split at hb
 ·rename_i e;subst e;exact .inr ⟨aaj _,aaZ _⟩
 ·exact .inl (by rw[hb];simp)⟩
theorem AF.Uk{h:za}{b:Nat}{o:vl}(hb:h.get b=some o)(x:Option vl):AF h (h.set b x):=⟨aaj _,rfl,λc o' hc=>by
 rw[za.yy]at hc;split at hc
 ·rename_i e;subst e;exact .inl (by rw[hb];simp)
 ·exact .inl (by rw[hc];simp)⟩
theorem FK{h h':za}{b off:Nat}{new:List aaa}(he:J7 h b off new=some h'):AF h h':=by
 unfold J7 at he;cases hz:Nat.beq new.length 0 with
 |true=>rw[hz]at he;simp only[aav,aab]at he;subst he;exact .refl _
 |false=>
  rw[hz]at he;simp only[aaB]at he;split at he
  ·rename_i hg;obtain⟨_,he⟩:=zo he;simp only[aab]at he;subst he;exact .Uk hg _
  ·cases he
theorem tR{t:TypeId}{a v:aaa}{h h':za}(he:ux P t a v h=some h'):AF h h':=by
 unfold ux at he;split at he
 ·split at he
  ·cases he
  ·rename_i hg;split at he
   ·cases he
   ·obtain⟨_,he⟩:=zo he;simp only[aab]at he;subst he;exact .Uk hg _
  ·cases he
 ·cases he
theorem FB{sT xT:TypeId}{s x v:aaa}{h h':za}(he:VN P sT xT s x h=some (v,h')):AF h h':=by
 unfold VN at he;split at he
 case h_2=>cases he
 rename_i elem xd n _ _ _;split at he
 case h_2=>cases he
 split at he
 case h_2=>cases he
 obtain⟨_,he⟩:=zo he;unfold UA at he;split at he
 ·cases hz:Nat.beq n 0 with
  |true=>rw[hz]at he;simp only[aav,aab,aae]at he;obtain⟨_,rfl⟩:=he;exact .refl _
  |false=>
   rw[hz]at he;obtain⟨_,he⟩:=zo (show cond _ _ none=_ from he);simp only[aab,aae]at he;obtain⟨_,rfl⟩:=he;exact .push _ _
 ·cases hz:Nat.beq n 0 with
  |true=>rw[hz]at he;simp only[aav,aab,aae]at he;obtain⟨_,rfl⟩:=he;exact .refl _
  |false=>
   rw[hz]at he;simp only[aaB]at he;split at he
   ·rename_i hg;obtain⟨_,he⟩:=zo he;simp only[aab,aae]at he;obtain⟨_,rfl⟩:=he;exact(AF.Uk hg none).trans (.push _ _)
   ·cases he
 ·cases he
theorem Nl{t:TypeId}{d x v:aaa}{h h':za}(he:DA P t d x h=some (v,h')):AF h h':=by
 unfold DA at he;split at he
 case h_2=>cases he
 split at he
 case h_1=>cases he
 split at he
 case h_1=>cases he
 split at he
 ·simp only[aab,aae]at he;obtain⟨_,rfl⟩:=he;exact .refl _
 ·simp only[aas,aae]at he;obtain⟨h2,hs,_,rfl⟩:=he;exact FK hs
 ·cases he
theorem Lg{t:TypeId}{x:aaa}{h h':za}(he:ow P t x h=some h'):AF h h':=by
 unfold ow at he;cases he
theorem rS{t:TypeId}{x k v:aaa}{h h':za}(he:Xe P t x k v h=some h'):AF h h':=by
 unfold Xe at he;split at he
 case h_2=>cases he
 split at he
 case h_2=>cases he
 rename_i hg;split at he
 case h_2=>cases he
 obtain⟨_,he⟩:=zo he;split at he
 ·split at he
  ·obtain⟨_,he⟩:=zo he;simp only[aab]at he;subst he;exact .Uk hg _
  ·cases he
 ·simp only[aab]at he;subst he;exact .Uk hg _
 ·cases he
theorem rR{t:TypeId}{x k:aaa}{h h':za}(he:W4 P t x k h=some h'):AF h h':=by
 unfold W4 at he;split at he
 case h_2=>cases he
 split at he
 case h_2=>cases he
 rename_i hg;split at he
 case h_2=>cases he
 obtain⟨_,he⟩:=zo he;split at he
 ·simp only[aab]at he;subst he;exact .Uk hg _
 ·simp only[aab]at he;subst he;exact .refl _
 ·cases he
theorem Nq{x v:aaa}{str:Bool}{h h':za}(he:tP P x str h=some (v,h')):AF h h':=by
 unfold tP at he;cases he
def Still(h h':za):Prop:=h'=h \/ ∃o,h'=h.push o
theorem Still.af{h h':za}(s:Still h h'):AF h h':=by
 rcases s with rfl|⟨o,rfl⟩
 ·exact .refl _
 ·exact .push _ _
theorem DI{t:TypeId}{l c v:aaa}{h h':za}(he:YS P t l c h=some (v,h')):Still h h':=by
 unfold YS at he;split at he
 case h_2=>cases he
 split at he
 case h_1=>cases he
 split at he
 case h_1=>cases he
 obtain⟨_,he⟩:=zo he;simp only[aab,aae]at he;obtain⟨_,rfl⟩:=he;exact .inr ⟨_,rfl⟩
theorem Bb{src dst:TypeId}{x v:aaa}{h h':za}(he:QC P src dst x h=some (v,h')):Still h h':=by
 unfold QC at he;split at he
 ·simp only[aab,aae]at he;obtain⟨_,rfl⟩:=he;exact .inl rfl
 ·split at he
  ·split at he
   ·simp only[aab,aae]at he;obtain⟨_,rfl⟩:=he;exact .inr ⟨_,rfl⟩
   ·cases he
  ·split at he
   ·simp only[aas,aae]at he;obtain⟨_,_,_,rfl⟩:=he;exact .inl rfl
   ·cases he
  ·cases he
theorem Dz{src dst:TypeId}{x v:aaa}{h h':za}(he:xg P src dst x h=some (v,h')):Still h h':=by
 unfold xg at he;split at he
 ·rename_i r hc;simp only[aab]at he;subst he;exact Bb hc
 ·simp only[aas,aae]at he;obtain⟨_,_,_,rfl⟩:=he;exact .inl rfl
theorem Ty{pt:TypeId}{p v:aaa}{n:Int}{h h':za}(he:aus P pt p n h=some (v,h')):AF h h':=by
 unfold aus at he;split at he
 ·obtain⟨_,he⟩:=zo he;simp only[aab,aae]at he;obtain⟨_,rfl⟩:=he;exact .refl _
 ·cases hn:decide (n=0) with
  |true=>rw[hn]at he;simp only[aav,aab,aae]at he;obtain⟨_,rfl⟩:=he;exact .refl _
  |false=>
   rw[hn]at he;simp only[aaB]at he;split at he
   case h_2=>cases he
   rename_i hg;split at he
   case h_2=>cases he
   obtain⟨_,he⟩:=zo he;simp only[aab,aae]at he;obtain⟨_,rfl⟩:=he;exact .Uk hg _
 ·cases he
theorem ew{t:TypeId}{n:Nat}{ps:List (Nat×aaa)}{v:aaa}{h h':za}(he:ze P t n ps h=some (v,h')):Still h h':=by
 unfold ze at he;split at he
 case h_2=>cases he
 split at he
 case h_2=>cases he
 obtain⟨_,he⟩:=zo he;split at he
 case h_2=>cases he
 obtain⟨_,he⟩:=zo he;simp only[aab,aae]at he;obtain⟨_,rfl⟩:=he;exact .inr ⟨_,rfl⟩
theorem uJ{x:Option aaa}{v:aaa}{h h':za}(he:one h x=some (v,h')):Still h h' := .inl (vF he).2
theorem Dw{b:Builtin}{ts:List TypeId}{r:TypeId}{vs:List aaa}{v:aaa}{h h':za}(he:zG P b ts r vs h=some (v,h')):AF h h':=by
 unfold zG at he;split at he
 ·exact FB he
 ·exact Nl he
 ·simp only[aas,aae]at he;obtain⟨_,_,_,rfl⟩:=he;exact .refl _
 ·simp only[aas,aae]at he;obtain⟨_,hc,_,rfl⟩:=he;exact Lg hc
 ·obtain⟨_,he⟩:=zo he;simp only[aas,aae]at he;obtain⟨_,_,_,rfl⟩:=he;exact .refl _
 ·obtain⟨_,he⟩:=zo he;simp only[aas,aae]at he;obtain⟨_,_,_,rfl⟩:=he;exact .refl _
 ·simp only[aas,aae]at he;obtain⟨_,hc,_,rfl⟩:=he;exact rR hc
 ·simp only[aas,aae]at he;obtain⟨_,_,_,rfl⟩:=he;exact .refl _
 ·simp only[aas,aae]at he;obtain⟨_,_,_,rfl⟩:=he;exact .refl _
 ·exact Ty he
 ·cases he
theorem Bq{t:TypeId}{x v:aaa}{h h':za}(he:gC P t x h=some (v,h')):Still h h':=by
 unfold gC at he;cases he
theorem KY{b:Builtin}{ts:List TypeId}{r:TypeId}{vs:List aaa}{v:aaa}{h h':za}(hq:Xp b=true)(he:zG P b ts r vs h=some (v,h')):h'=h:=by
 unfold zG at he
 split at he <;> first
  |(simp[Xp]at hq;done)
  |(simp only[aas,aae]at he;obtain⟨_,_,_,rfl⟩:=he;rfl)
  |(obtain⟨_,he⟩:=zo he;simp only[aas,aae]at he;obtain⟨_,_,_,rfl⟩:=he;rfl)
  |cases he
theorem Xb{g:FuncId}{args:List aaa}{v:aaa}{h h':za}(he:Bh P g args h=some (v,h')):Still h h':=by
 unfold Bh at he;split at he
 ·rename_i r hn;simp only[aab]at he;subst he;unfold Io at hn;split at hn
  case h_2=>cases hn
  obtain⟨_,hn⟩:=zo hn;split at hn
  case h_2=>cases hn
  simp only[aab,aae]at hn;obtain⟨_,rfl⟩:=hn;exact .inl rfl
 ·unfold pO at he;split at he
  case h_2=>cases he
  obtain⟨_,he⟩:=zo he;split at he
  case h_2=>cases he
  split at he
  case h_2=>cases he
  obtain⟨_,he⟩:=zo he;simp only[aab,aae]at he;obtain⟨_,rfl⟩:=he;exact .inr ⟨_,rfl⟩
theorem Zz{s:Env}{o:Oper}{v:aaa}{h h':za}(he:Um P s o h=some (v,h')):AF h h'/\(Xw o.op=false->Still h h'):=by
 unfold Um at he;split at he <;> rename_i yk
 ·have:=uJ he;exact⟨this.af,λ_=>this⟩
 ·have:=uJ he;exact⟨this.af,λ_=>this⟩
 ·split at he
  ·have:=uJ he;exact⟨this.af,λ_=>this⟩
  ·have:=uJ he;exact⟨this.af,λ_=>this⟩
  ·cases he
 ·split at he
  ·simp only[aab,r9,aae]at he;obtain⟨_,rfl⟩:=he;exact⟨.push _ _,λ_ => .inr ⟨_,rfl⟩⟩
  ·cases he
 ·split at he
  ·simp only[aab,r9,aae]at he;obtain⟨_,rfl⟩:=he;exact⟨.push _ _,λ_ => .inr ⟨_,rfl⟩⟩
  ·cases he
 ·split at he
  ·have:=uJ he;exact⟨this.af,λ_=>this⟩
  ·cases he
 ·split at he
  ·have:=ew he;exact⟨this.af,λ_=>this⟩
  ·cases he
 ·split at he
  ·have:=uJ he;exact⟨this.af,λ_=>this⟩
  ·cases he
 ·split at he
  ·split at he
   ·rename_i hs;simp only[aab,aae]at he;obtain⟨_,rfl⟩:=he;exact⟨tR hs,λhw=>by rw[yk]at hw;cases hw⟩
   ·cases he
  ·cases he
 ·split at he
  ·simp only[aab,aae]at he;obtain⟨_,rfl⟩:=he;exact⟨.refl _,λ_ => .inl rfl⟩
  ·simp only[aab,aae]at he;obtain⟨_,rfl⟩:=he;exact⟨.refl _,λ_ => .inl rfl⟩
  ·cases he
 ·split at he
  ·have:=uJ he;exact⟨this.af,λ_=>this⟩
  ·cases he
 ·split at he
  ·obtain⟨_,he⟩:=zo he;have:=uJ he;exact⟨this.af,λ_=>this⟩
  ·cases he
 ·split at he
  ·have:=Dz he;exact⟨this.af,λ_=>this⟩
  ·cases he
 ·split at he
  ·split at he
   ·simp only[aab,aae]at he;obtain⟨_,rfl⟩:=he;exact⟨.refl _,λ_ => .inl rfl⟩
   ·cases he
  ·cases he
 ·split at he
  ·simp only[aab,aae]at he;obtain⟨_,rfl⟩:=he;exact⟨.refl _,λ_ => .inl rfl⟩
  ·cases he
 ·split at he
  ·have:=DI he;exact⟨this.af,λ_=>this⟩
  ·cases he
 ·split at he
  ·split at he
   ·simp only[aab,aae]at he;obtain⟨_,rfl⟩:=he;exact⟨.refl _,λ_ => .inl rfl⟩
   ·cases he
  ·have:=uJ he;exact⟨this.af,λ_=>this⟩
  ·cases he
 ·split at he
  ·have:=uJ he;exact⟨this.af,λ_=>this⟩
  ·cases he
 ·split at he
  ·split at he
   ·split at he
    ·have:=uJ he;exact⟨this.af,λ_=>this⟩
    ·cases he
   ·cases he
  ·cases he
 ·split at he
  ·have:=uJ he;exact⟨this.af,λ_=>this⟩
  ·cases he
 ·split at he
  ·obtain⟨_,he⟩:=zo he;have:=uJ he;exact⟨this.af,λ_=>this⟩
  ·cases he
 ·split at he
  ·have:=uJ he;exact⟨this.af,λ_=>this⟩
  ·cases he
 ·split at he
  ·refine⟨Dw he,λhw=>?_⟩;rw[yk]at hw;simp only[Xw,Bool.not_eq_false']at hw;exact .inl (KY hw he)
  ·cases he
 ·simp only[aab,UE,aae]at he;obtain⟨_,rfl⟩:=he;exact⟨.push _ _,λ_ => .inr ⟨_,rfl⟩⟩
 ·split at he
  ·have:=uJ he;exact⟨this.af,λ_=>this⟩
  ·cases he
 ·split at he
  ·split at he
   ·rename_i hu;simp only[aab,aae]at he;obtain⟨_,rfl⟩:=he;exact⟨rS hu,λhw=>by rw[yk]at hw;cases hw⟩
   ·cases he
  ·cases he
 ·split at he
  ·have:=Bq he;exact⟨this.af,λ_=>this⟩
  ·cases he
 ·split at he
  ·exact⟨Nq he,λhw=>by rw[yk]at hw;cases hw⟩
  ·cases he
 ·split at he
  ·have:=uJ he;exact⟨this.af,λ_=>this⟩
  ·cases he
 ·cases he
end
noncomputable section
variable {P:Program}{cls:List Nat}
def Frames(rec:YX):Prop := ∀t h o h',rec t h=some (o,h')->AF h h'
def WF(h:za):Prop := ∀b o,h.get b=some o->b<h.next
theorem WF.af{h h':za}(w:WF h)(a:AF h h'):WF h':=by
 intro b o hb;rcases a.alive b o hb with h1|⟨_,h2⟩
 ·obtain⟨o',ho'⟩:∃o,h.get b=some o:=by cases hh:h.get b with|none=>exact absurd hh h1|some o=>exact⟨o,rfl⟩
  exact aap (w b o' ho') a.next
 ·exact h2
theorem AF.lock{h h':za}(a:AF h.lock h'):h.next<=h'.next /\ ∀b o,h'.get b=some o->h.get b≠none\/(h.next<=b/\b<h'.next):=⟨a.next,a.alive⟩
theorem AF.wS{h h2:za}(hn:h.next<=h2.next):AF h (wS h h2):=⟨hn,rfl,λb o hb=>by
 rw[wO]at hb;split at hb
 ·rename_i hc;exact .inr hc
 ·exact .inl (by rw[hb];simp)⟩
def Ku(ops:Array Oper)(ms:List Nat):Prop := ∀k q,(ms.getD k 0).testBit q=true->Prec ops q k
theorem uX{ops:Array Oper}{ms:List Nat}(hm:Ku ops ms){i:Nat}{o:Oper}(ho:ops[i]? = some o){q:Nat}(h:(yz ms o).testBit q=true):Prec ops q i:=by
 have key:∀(l:List Edge) (m:Nat),(∀e,e∈l->e∈o.after)->(l.foldl (λm e=>cond (Region.binds .any e) (m ||| (1 <<< e.on) ||| ms.getD e.on 0) m) m).testBit q=true->m.testBit q=true\/Prec ops q i:=by
  intro l
  induction l with
  |nil=>intro m _ h;exact .inl h
  |cons e l ih=>
   intro m hl h;rw[acm]at h;rcases ih _ (λx hx=>hl x (by simp[hx])) h with h1|h1
   ·cases hb:Region.binds .any e with
    |false=>rw[hb]at h1;exact .inl h1
    |true=>
     rw[hb]at h1;simp only[aav,Nat.testBit_or,aaW]at h1;rcases h1 with(h1|h1)|h1
     ·exact .inl h1
     ·rw[Nat.testBit_shiftLeft]at h1;simp only[aad,aaF,Nat.testBit_one_eq_true_iff_self_eq_zero]at h1;have:q=e.on:=by omega
      subst this;exact .inr (.one ho (hl e (by simp)) hb)
     ·exact .inr (.more ho (hl e (by simp)) hb (hm _ _ h1))
   ·exact .inr h1
 rcases key o.after.toList 0 (λe he=>by simpa using he) h with h1|h1
 ·simp at h1
 ·exact h1
theorem XX{ops:Array Oper}{ms:List Nat}(hm:Ku ops ms){i:Nat}(hl:ms.length=i){o:Oper}(ho:ops[i]? = some o):Ku ops (ms++[yz ms o]):=by
 intro k q h;rcases Nat.lt_trichotomy k i with hk|hk|hk
 ·rw[abd,abk (by omega),<- abd]at h;exact hm k q h
 ·subst hk;rw[abd,abj (by omega),hl]at h;simp at h;exact uX hm ho h
 ·rw[abd,aat (by simp;omega)]at h;simp at h
theorem pH(A:List yr)(r:yr)(p:yr->Bool):vr (A++[r]) p=if p r=true then some r else vr A p:=by
 simp only[vr,aaO,abL,List.filter_nil];by_cases h:p r=true
 ·simp[h]
 ·simp[h]
theorem UL(A:List yr)(r:yr)(s0:Env)(t:Nat):Uf (A++[r]) s0 t=if r.o.dst=some t then r.v else Uf A s0 t:=by
 simp only[Uf,pH,Uo,aaF];by_cases h:r.o.dst=some t <;> simp[h]
theorem Jj(A:List yr)(r:yr)(h0:za)(b:Nat):Yh (A++[r]) h0 b=if r.tc b=true then r.g'.get b else Yh A h0 b:=by
 simp only[Yh,pH];by_cases h:r.tc b=true <;> simp[h]
structure FOk (y:lA):Prop where
 tc:y.all=false->∀b,y.r.tc b=true ↔ b∈y.Fb
 lt:∀b,y.all=true->y.r.tc b=true->True
 bk:y.bk=true->(∀b,y.r.rd b=false) /\ ∀b,y.r.tc b=false
 ex:y.ex=true->∀b,y.r.rd b=true->b∈y.rdl
theorem H8{ops:Array Oper}{x y:lA}(hx:FOk x)(hy:FOk y)(hs:kU ops x.r.o y.r.o=true)(h:y.bk=true\/px x y=true):lB ops x.r y.r:=by
 simp only[kU,aad]at hs;obtain⟨h1,h2⟩:=hs
 have hd1:∀d,x.r.o.dst=some d->d∉y.r.o.looksAt ops/\y.r.o.dst≠some d:=by
  intro d hd;rw[hd]at h1;simp only[aad,aan,aam,aaC]at h1;exact⟨h1.1,h1.2⟩
 have hd2:∀d,y.r.o.dst=some d->d∉x.r.o.looksAt ops:=by
  intro d hd;rw[hd]at h2;simp only[aan,aam,aaC]at h2;exact h2
 rcases h with hl|h
 ·obtain⟨l1,l2⟩:=hy.bk hl;exact⟨hd1,hd2,λb _=>⟨l1 b,l2 b⟩,λb hb=>by rw[l2 b]at hb;cases hb⟩
 simp only[px,aad]at h;obtain⟨h3,h4⟩:=h;refine⟨hd1,hd2,?_,?_⟩
 ·intro b hb;cases ha:x.all with
  |true=>
   rw[ha]at h3;simp only[aav,aaW,aad,aan,aaD]at h3;rcases h3 with h3|⟨⟨⟨h3,h5⟩,h6⟩,h7⟩
   ·exact⟨(hy.bk h3).1 b,(hy.bk h3).2 b⟩
   ·refine⟨?_,?_⟩
    ·cases hr:y.r.rd b with
     |false=>rfl
     |true=>have:=h6 b (hy.ex h3 b hr);rw[hb]at this;cases this
    ·cases hr:y.r.tc b with
     |false=>rfl
     |true=>have:=h7 b ((hy.tc h5 b).1 hr);rw[hb]at this;cases this
  |false=>
   rw[ha]at h3;simp only[aaB,aaD,aad,aan]at h3;exact h3 b ((hx.tc ha b).1 hb)
 ·intro b hb;cases ha:y.all with
  |true=>
   rw[ha]at h4;simp only[aav,aaW,aad,aan,aaD]at h4;rcases h4 with h4|⟨h4,h5⟩
   ·exact(hx.bk h4).1 b
   ·cases hr:x.r.rd b with
    |false=>rfl
    |true=>have:=h5 b (hx.ex h4 b hr);rw[hb]at this;cases this
  |false=>
   rw[ha]at h4;simp only[aaB,aaD,aan]at h4;exact h4 b ((hy.tc ha b).1 hb)
structure vz (P:Program) (ops:Array Oper) (s0:Env) (h0:za) (A:List yr) (i:Nat) (s:Env) (h:za):Prop where
 js:A.map (·.j)=List.range i
 env:∀t,s.get t=Uf A s0 t
 size:s.size=s0.size
 heap:∀b,h.get b=Yh A h0 b
 ro:h.ro=h0.ro
 next:h0.next<=h.next
 nA:∀x,x∈A->x.g'.next<=h.next
 wf:WF h
 told:∀A1 r A2,A=A1++r::A2->Told P ops s0 h0 A1 r
 Vc:∀A1 r A2,A=A1++r::A2->∀e,e∈r.o.after->Region.binds .any e=true->∃x,x∈A1/\x.j=e.on
 apart:∀A1 x A2 y A3,A=A1++x::(A2++y::A3)->Prec ops x.j y.j\/lB ops x y
theorem LG{rec:YX}(S:Sound P rec)(hF:Frames rec)(hC:ZV P cls=true){ops:Array Oper}{s0:Env}{h0:za}{A:List yr}{recs:List lA}{i mask:Nat}{o:Oper}{os:List Oper}{s:Env}{h h1:za}{y:lA}
  (F:vz P ops s0 h0 A i s h) (ho:ops[i]? = some o) (hput:∀d,o.dst=some d->d<s.size) (he:oY P cls rec ops recs mask i os o s h=some (y,h1)) :
  y.r.j=i/\y.r.o=o/\FOk y/\Told P ops s0 h0 A y.r/\(∀b,h1.get b=if y.r.tc b=true then y.r.g'.get b else h.get b)/\h1.ro=h.ro/\h.next<=h1.next/\y.r.g'.next<=h1.next/\WF h1:=by
 unfold oY at he;cases hw:yq ops s o with
 |false=>
  rw[hw]at he;simp only[aaB,aab,aae]at he;obtain⟨rfl,rfl⟩:=he;refine⟨rfl,rfl,⟨λ_ b=>by simp,λ_ _ _=>trivial,λ_=>⟨λ_=>rfl,λ_=>rfl⟩,λ_ b hb=>(by cases hb)⟩,⟨ho,F.env,F.size,λb=>by rw[uq];simp,F.ro,F.next,F.nA,aaj _,.inl ⟨hw,rfl,rfl⟩,λd hd=>by rw[<- F.size];exact hput d hd,λb hb=>(by cases hb),λb _=>rfl,λb o' hb=>(by cases hb)⟩,λb=>by simp,rfl,aaj _,aaj _,F.wf⟩
 |true=>
  rw[hw]at he;simp only[aav]at he;split at he
  ·
   rename_i f args ts yk;split at he
   case h_2=>cases he
   rename_i g fa fc vs hf hargs;split at he
   ·
    rename_i hk
    have hlt:∀b,b∈(((recs.flatMap λx=>cond (mask.testBit x.r.j) [] (x.Fb++x.rdl))++ey s ((o::os).filterMap (·.dst)) os (i+1) (1 <<< i)).filter λb=>Nat.blt b h.next)->b<h.next:=λb hb=>by
     simpa [aaM] using(abM.1 hb).2
    generalize (((recs.flatMap λx=>cond (mask.testBit x.r.j) [] (x.Fb++x.rdl))++ey s ((o::os).filterMap (·.dst)) os (i+1) (1 <<< i)).filter λb=>Nat.blt b h.next)=hid at *
    split at he
    case h_2=>cases he
    rename_i v h' hrec;simp only[aab,aae]at he;obtain⟨rfl,rfl⟩:=he;have af:=hF _ _ _ _ hrec
    have hwfh:WF (h.YD hid):=λb o' hb=>by
     rw[uP]at hb;split at hb
     ·cases hb
     ·exact F.wf b o' hb
    have hwf:=hwfh.af af;have hn:h.next<=h'.next:=af.next
    have hgone:∀b,b∈hid->h'.get b=none:=by
     intro b hb;cases hh:h'.get b with
     |none=>rfl
     |some o'=>
      rcases af.alive b o' hh with h2|⟨h2,_⟩
      ·rw[uP,aai hb]at h2;exact absurd rfl h2
      ·have:h.next<=b:=h2;have:=hlt b hb;omega
    have hbeyond:∀b,¬b<h'.next->h'.get b=none/\h.get b=none:=by
     intro b hb;refine⟨?_,?_⟩
     ·cases hh:h'.get b with|none=>rfl|some o'=>exact absurd (hwf b o' hh) hb
     ·cases hh:h.get b with|none=>rfl|some o'=>exact absurd (aap (F.wf b o' hh) hn) hb
    refine⟨rfl,rfl,⟨λha=>(by cases ha),λ_ _ _=>trivial,λhl=>(by cases hl),λhl=>(by cases hl)⟩,⟨ho,F.env,F.size,λb=>?_,F.ro,F.next,F.nA,hn,.inr ⟨hw,.inr (.inl ⟨f,args,ts,g,fa,fc,vs,yk,hf,hargs,Zh hC hk,S.call _ _ _ _ _ hrec⟩)⟩,λd hd=>by rw[<- F.size];exact hput d hd,λb hb=>?_,λb hb=>?_,λb o' _ hlt2 hb=>?_⟩,λb=>?_,af.ro,hn,aaj _,?_⟩
    ·rw[uP];simp only[aad,aaM,aan,aaC,aam];by_cases hm:b∈hid
     ·rw[aai hm,aag (λhc=>hc.2 hm)]
     ·rw[aag hm];by_cases hb:b<h.next
      ·rw[aai ⟨hb,hm⟩];exact F.heap b
      ·rw[aag (λhc=>hb hc.1)];cases hh:h.get b with
       |none=>rfl
       |some o'=>exact absurd (F.wf b o' hh) hb
    ·simp only[aad,aaM,aan,aaC,aam]at hb ⊢;by_cases hb2:b<h.next
     ·exact .inl ⟨hb2,hb.2⟩
     ·exact .inr ⟨abR hb2,hb.1⟩
    ·show h'.get b=(h.YD hid).get b;rw[uP];by_cases hm:b∈hid
     ·rw[aai hm,hgone b hm]
     ·rw[aag hm]
      have hb':¬b<h'.next:=by
       intro hc;have h3:(Nat.blt b h'.next && !hid.contains b)=true:=by simpa [aaM] using⟨hc,hm⟩
       exact ab2 ((show(Nat.blt b h'.next && !hid.contains b)=false from hb).symm.trans h3)
      rw[(hbeyond b hb').1,(hbeyond b hb').2]
    ·rcases af.alive b o' hb with h2|⟨h2,_⟩
     ·exact h2
     ·exact absurd hlt2 (by show ¬b<(h.YD hid).next;omega)
    ·rw[Zj];simp only[aad,aaM,aan,aaC,aam];by_cases hm:b∈hid
     ·rw[aai hm,aag (λhc=>hc.2 hm)]
     ·rw[aag hm];by_cases hb:b<h'.next
      ·rw[aai ⟨hb,hm⟩]
      ·rw[aag (λhc=>hb hc.1),(hbeyond b hb).1,(hbeyond b hb).2]
    ·intro b o' hb;rw[Zj]at hb;show b<h'.next;split at hb
     ·exact aap (F.wf b o' hb) hn
     ·exact hwf b o' hb
   ·
    rename_i hk;split at he
    case h_2=>cases he
    rename_i v h2 hrec;obtain⟨hsc,he⟩:=zo he;simp only[aab,aae]at he;obtain⟨rfl,rfl⟩:=he;generalize (recs.flatMap λx=>cond (mask.testBit x.r.j) [] x.Fb)=hid at *
    have hq:TC P g (fa.toList++vs++fc.toList) (h.YD hid) (λv1 h1=>v1=v/\h1=h.YD hid) :=
     ((S.call _ _ _ _ _ hrec).quiet (λv2 h2 q=>by rw[q.1];exact hsc)).mono (by rintro v2 h3 ⟨⟨h4,q1,q2⟩,rfl⟩;exact⟨q1,rfl⟩)
    refine⟨rfl,rfl,⟨λ_ b=>by simp,λ_ _ _=>trivial,λhl=>(by cases hl),λhl=>(by cases hl)⟩,⟨ho,F.env,F.size,λb=>?_,F.ro,F.next,F.nA,aaj _,.inr ⟨hw,.inr (.inl ⟨f,args,ts,g,fa,fc,vs,yk,hf,hargs,Zh hC hk,hq⟩)⟩,λd hd=>by rw[<- F.size];exact hput d hd,λb hb=>(by cases hb),λb _=>rfl,λb o' hb=>(by cases hb)⟩,λb=>by simp,rfl,aaj _,aaj _,F.wf⟩;rw[uP];simp only[aad,aaM,aan,aaC,aam];by_cases hm:b∈hid
    ·rw[aai hm,aag (λhc=>hc.2 hm)]
    ·rw[aag hm];by_cases hb:b<h.next
     ·rw[aai ⟨hb,hm⟩];exact F.heap b
     ·rw[aag (λhc=>hb hc.1)];cases hh:h.get b with
      |none=>rfl
      |some o'=>exact absurd (F.wf b o' hh) hb
   ·
    rename_i hk;split at he
    case h_2=>cases he
    rename_i v h2 hrec;simp only[aab,aae]at he;obtain⟨rfl,rfl⟩:=he;generalize (recs.flatMap λx=>cond (mask.testBit x.r.j) [] x.Fb)=hid at *
    have af:=(hF _ _ _ _ hrec).lock;have hn:h.next<=h2.next:=af.1;refine⟨rfl,rfl,⟨λ_ b=>by simp,λ_ _ _=>trivial,λhl=>(by cases hl),λhl=>(by cases hl)⟩,⟨ho,F.env,F.size,λb=>?_,F.ro,F.next,F.nA,hn,.inr ⟨hw,.inr (.inl ⟨f,args,ts,g,fa,fc,vs,yk,hf,hargs,Zh hC hk,(S.call _ _ _ _ _ hrec).fresh⟩)⟩,λd hd=>by rw[<- F.size];exact hput d hd,λb hb=>?_,λb hb=>?_,λb o' hb hlt _=>?_⟩,λb=>?_,rfl,hn,aaj _,F.wf.af (.wS hn)⟩
    ·rw[uP];simp only[aad,aaM,aan,aaC,aam];by_cases hm:b∈hid
     ·rw[aai hm,aag (λhc=>hc.2 hm)]
     ·rw[aag hm];by_cases hb:b<h.next
      ·rw[aai ⟨hb,hm⟩];exact F.heap b
      ·rw[aag (λhc=>hb hc.1)];cases hh:h.get b with
       |none=>rfl
       |some o'=>exact absurd (F.wf b o' hh) hb
    ·simp only[aaC,aaF,jU]at hb;exact .inr hb
    ·simp only[aaC,aam,jU]at hb;simp only[wO];rw[aag (show ¬((h.YD hid).next<=b/\b<h2.next) from hb)]
    ·simp only[aaC,aaF,jU]at hb;exact absurd hlt (by show ¬b<h.next;omega)
    ·simp only[aaC,aaF,jU,wO];by_cases hb:h.next<=b/\b<h2.next
     ·rw[aai hb,aai hb,aai (show(h.YD hid).next<=b/\b<h2.next from hb)]
     ·rw[aag hb,aag hb]
   ·
    split at he
    case h_2=>cases he
    rename_i v g' hop2;simp only[aab,aae]at he;obtain⟨rfl,rfl⟩:=he;have still:=Xb hop2;have af:=still.af;have hn:h.next<=g'.next:=af.next;have hro:g'.ro=h.ro:=af.ro;refine⟨rfl,rfl,⟨λ_ b=>by simp,λ_ _ _=>trivial,λhl=>?_,λ_ b hb=>(by cases hb)⟩,⟨ho,F.env,F.size,λb=>by rw[uq];simp,F.ro,F.next,F.nA,hn,.inr ⟨hw,.inr (.inr ⟨f,args,ts,g,fa,fc,vs,yk,hf,hargs,hop2⟩)⟩,λd hd=>by rw[<- F.size];exact hput d hd,λb hb=>?_,λb hb=>?_,λb o' hb hlt hg=>?_⟩,λb=>?_,rfl,hn,aaj _,?_⟩
    ·simp only[List.isEmpty_iff]at hl;refine⟨λb=>rfl,λb=>?_⟩;show(List.range' h.next (g'.next-h.next)).contains b=false;rw[hl];rfl
    ·simp only[aaC,aaF,jU]at hb;exact .inr hb
    ·simp only[aaC,aam,jU]at hb;rcases still with e|⟨ob,e⟩
     ·rw[e]
     ·rw[e,za.vT];split
      ·rename_i eb;exact absurd ⟨by rw[eb];exact aaj _,by rw[eb,e];exact aaZ _⟩ hb
      ·rfl
    ·simp only[aaC,aaF,jU]at hb;exact absurd hlt (by show ¬b<h.next;omega)
    ·rw[Jf];simp only[aaC,aaF]
    ·intro b o' hb;rw[Jf]at hb;split at hb
     ·rename_i hm;exact(jU.1 hm).2
     ·exact aap (F.wf b o' hb) hn
  ·
   rename_i hnc;split at he
   case h_2=>cases he
   rename_i v g' yk;simp only[aab,aae]at he;obtain⟨rfl,rfl⟩:=he;obtain⟨af,still⟩:=Zz yk;generalize hbs:OL s o h=bs at *
   have hn:h.next<=g'.next:=af.next
   have hmemtc:∀b,b∈(cond (Xw o.op) (bs++List.range' h.next (g'.next-h.next)) (List.range' h.next (g'.next-h.next))) ↔ (Xw o.op=true/\b∈bs)\/(h.next<=b/\b<g'.next):=by
    intro b;cases Xw o.op with
    |true=>simp only[aav,aaG,jU,true_and]
    |false=>simp only[aaB,jU,aa9,false_and,false_or]
   generalize htcl:(cond (Xw o.op) (bs++List.range' h.next (g'.next-h.next)) (List.range' h.next (g'.next-h.next)))=Fb at *
   have hnew:∀b,¬(h.next<=b/\b<g'.next)->b∉bs\/Xw o.op=false->g'.get b=(h.pick bs).get b:=by
    intro b hb hor;cases hwr:Xw o.op with
    |false=>
     rcases still hwr with e|⟨ob,e⟩
     ·rw[e]
     ·rw[e,za.vT];split
      ·rename_i eb;exact absurd ⟨by rw[eb];exact aaj _,by rw[eb,e];exact aaZ _⟩ hb
      ·rfl
    |true=>
     rcases hor with hor|hor
     ·have e0:(h.pick bs).get b=none:=(by rw[uq,aag hor]);rw[e0];cases hh:g'.get b with
      |none=>rfl
      |some o'=>
       rcases af.alive b o' hh with h2|h2
       ·exact absurd e0 h2
       ·exact absurd h2 hb
     ·rw[hwr]at hor;cases hor
   have hro:g'.ro=h.ro:=af.ro;refine⟨rfl,rfl,⟨λ_ b=>by simp,λ_ _ _=>trivial,λhl=>?_,λ_ b hb=>by simpa using hb⟩,⟨ho,F.env,F.size,λb=>?_,F.ro,F.next,F.nA,hn,.inr ⟨hw,.inl yk⟩,λd hd=>by rw[<- F.size];exact hput d hd,λb hb=>?_,λb hb=>?_,λb o' hb hlt hg=>?_⟩,λb=>?_,rfl,hn,aaj _,?_⟩
   ·simp only[aad,List.isEmpty_iff]at hl;obtain⟨e1,e2⟩:=hl;subst e1 e2;exact⟨λb=>rfl,λb=>rfl⟩
   ·rw[uq];simp only[aaC,aaF];split
    ·exact F.heap b
    ·rfl
   ·simp only[aaC,aaF]at hb ⊢;rcases (hmemtc b).1 hb with h2|h2
    ·exact .inl h2.2
    ·exact .inr h2
   ·simp only[aaC,aam]at hb;have hb2:=λhc=>hb ((hmemtc b).2 hc);refine hnew b (λhc=>hb2 (.inr hc)) ?_;cases hwr:Xw o.op with
    |false=>exact .inr rfl
    |true=>exact .inl (λhc=>hb2 (.inl ⟨hwr,hc⟩))
   ·rcases af.alive b o' hg with h2|⟨h2,_⟩
    ·exact h2
    ·exact absurd hlt (by show ¬b<(h.pick bs).next;omega)
   ·rw[Jf];simp only[aaC,aaF]
   ·intro b o' hb;rw[Jf]at hb;split at hb
    ·rcases af.alive b o' hb with h2|⟨_,h2⟩
     ·rw[uq]at h2;split at h2
      ·obtain⟨o2,ho2⟩:∃o,h.get b=some o:=by cases hh:h.get b with|none=>exact absurd hh h2|some o=>exact⟨o,rfl⟩
       exact aap (F.wf b o2 ho2) hn
      ·exact absurd rfl h2
     ·exact h2
    ·exact aap (F.wf b o' hb) hn
end
noncomputable section
variable {P:Program}{cls:List Nat}
theorem vI{α:Type}{A A1 A2:List α}{y r:α}(e:A++[y]=A1++r::A2):(A2=[]/\A1=A/\r=y) \/ ∃A3,A2=A3++[y]/\A=A1++r::A3:=by
 rcases List.eq_nil_or_concat A2 with h|⟨A3,z,h⟩
 ·subst h;have:=List.append_inj' e rfl;simp at this;exact .inl ⟨rfl,this.1.symm,this.2.symm⟩
 ·subst h;rw[List.concat_eq_append]at *
  have e2:A++[y]=(A1++r::A3)++[z]:=by rw[e];simp
  have:=List.append_inj' e2 rfl;simp at this;exact .inr ⟨A3,by rw[this.2],this.1⟩
theorem Ad{rec:YX}(S:Sound P rec)(hF:Frames rec)(hC:ZV P cls=true){ops:Array Oper}{s0:Env}{h0:za}:∀(l:List Oper) (i:Nat) (ms:List Nat) (recs:List lA) (s:Env) (h:za) {s':Env} {h':za},
  ops.toList.drop i=l->i<=ops.size->Ku ops ms->ms.length=i->vz P ops s0 h0 (recs.map (·.r)).reverse i s h->(∀x,x∈recs->FOk x)->Zn ops l i ms (recs.map λx=>(x.r.j,x.r.o))=true->QK P cls rec ops l i ms recs s h=some (s',h') ->
  ∃A,vz P ops s0 h0 A ops.size s' h'
 |[],i,ms,recs,s,h,s',h',hl,hle,hm,hml,F,hok,hst,he=>by
  simp only[QK,aab,aae]at he;obtain⟨rfl,rfl⟩:=he
  have:i=ops.size:=by
   have:=congrArg List.length hl;simp at this;omega
  subst this;exact⟨_,F⟩
 |o::os,i,ms,recs,s,h,s',h',hl,hle,hm,hml,F,hok,hst,he=>by
  have ho:ops[i]? = some o:=by
   have:=congrArg (λl=>l[0]?) hl;simp only[aaS,aay]at this;simpa using this
  have hlt:i<ops.size:=by
   rcases aaL i ops.size with h|h
   ·exact h
   ·rw[aaH h]at ho;cases ho
  have hl':ops.toList.drop (i+1)=os:=by rw[<- aci,hl];rfl
  simp only[QK]at he;simp only[Zn,aad]at hst;obtain⟨⟨hedge,hslots⟩,hst⟩:=hst;split at he
  case h_2=>cases he
  rename_i y h1 yk;obtain⟨hind,he⟩:=zo he;split at he
  case h_2=>cases he
  rename_i s1 hp
  have hput:∀d,o.dst=some d->d<s.size:=by
   intro d hd;rw[hd]at hp;simp only[Env.put]at hp;obtain⟨hb,_⟩:=zo hp;simpa [aaM] using hb
  obtain⟨hj,hyo,hfok,htold,hheap,hro,hnx,hyn,hwf⟩:=LG S hF hC F ho hput yk
  have hs1:∀t,s1.get t=if o.dst=some t then y.r.v else s.get t:=by
   intro t;cases hd:o.dst with
   |none=>rw[hd]at hp;simp only[Env.put,aab]at hp;subst hp;simp
   |some d=>
    rw[hd]at hp;simp only[Env.put]at hp;obtain⟨_,hp⟩:=zo hp;simp only[aab]at hp;subst hp;rw[Env.yy];by_cases e:t=d
    ·subst e;simp
    ·rw[aag e,aag (by simp only[aab];exact λh=>e h.symm)]
  have hs1s:s1.size=s.size:=by
   cases hd:o.dst with
   |none=>rw[hd]at hp;simp only[Env.put,aab]at hp;subst hp;rfl
   |some d=>
    rw[hd]at hp;simp only[Env.put]at hp;obtain⟨_,hp⟩:=zo hp;simp only[aab]at hp;subst hp;rfl
  have hrev:(List.map (·.r) (y::recs)).reverse=(recs.map (·.r)).reverse++[y.r]:=by simp
  refine Ad S hF hC os (i+1) (ms++[yz ms o]) (y::recs) s1 h1 hl' hlt (XX hm hml ho) (by simp[hml]) ?_ (λx hx=>?_) (by simpa [hj,hyo] using hst) he
  ·rw[hrev];refine⟨?_,?_,hs1s.trans F.size,?_,hro.trans F.ro,aaV F.next hnx,?_,hwf,?_,?_,?_⟩
   ·rw[abm,F.js,abE];simp[hj]
   ·intro t;rw[hs1,UL,hyo,F.env]
   ·intro b;rw[hheap,Jj,F.heap]
   ·intro x hx;rcases aaG.1 hx with hx|hx
    ·exact aaV (F.nA x hx) hnx
    ·simp only[aaq]at hx;subst hx;exact hyn
   ·intro A1 r A2 e;rcases vI e with⟨_,rfl,rfl⟩|⟨A3,_,e3⟩
    ·exact htold
    ·exact F.told A1 r A3 e3
   ·intro A1 r A2 e ed hed hb;rcases vI e with⟨_,rfl,rfl⟩|⟨A3,_,e3⟩
    ·rw[hyo]at hed;simp only[aaD,aaW,aan,aaM]at hedge;rcases hedge ed (by simpa using hed) with h2|h2
     ·rw[hb]at h2;cases h2
     ·have:ed.on∈(recs.map (·.r)).reverse.map (·.j):=(by rw[F.js];exact abe.2 h2);obtain⟨x,hx,hxj⟩:=aa4.1 this;exact⟨x,hx,hxj⟩
    ·exact F.Vc A1 r A3 e3 ed hed hb
   ·intro A1 x A2 z A3 e;have e':(recs.map (·.r)).reverse++[y.r]=(A1++x::A2)++z::A3:=by rw[e];simp
    rcases vI e' with⟨_,e1,rfl⟩|⟨A4,_,e3⟩
    ·have hxm:x∈(recs.map (·.r)).reverse:=(by rw[<- e1];simp);rw[List.mem_reverse,aa4]at hxm;obtain⟨fx,hfx,rfl⟩:=hxm;simp only[aaD,aaW]at hind hslots;rcases hslots (fx.r.j,fx.r.o) (aa4.2 ⟨fx,hfx,rfl⟩) with h2|h2
     ·rw[hj];exact .inl (uX hm ho h2)
     ·rw[<- hyo]at h2;rcases hind with h3|h3
      ·exact .inr (H8 (hok fx hfx) hfok h2 (.inl h3))
      ·rcases h3 fx hfx with h4|h4
       ·exact .inr (H8 (hok fx hfx) hfok h2 (.inr h4))
       ·rw[hj];exact .inl (uX hm ho h4)
    ·exact F.apart A1 x A2 z A4 (by rw[e3];simp)
  ·rcases aaP.1 hx with rfl|hx
   ·exact hfok
   ·exact hok x hx
theorem FX{rec:YX}(S:Sound P rec)(hF:Frames rec)(hC:ZV P cls=true)(hmix:P.follows .mixedOrders=true){rd:Option Nat}{id:Nat}{ops:Array Oper}{s s':Env}{h h':za}
  (hst:Zn ops ops.toList 0 [] []=true) (he:QK P cls rec ops ops.toList 0 [] [] s h=some (s',h')):T P rd (.region id ops true) s h (λe1 s1 h1=>e1=.normal/\s1=s'/\h1=h'):=by
 intro ρ w tm ds hr
 have F0:vz P ops s h ([]:List yr) 0 s h:=⟨rfl,λt=>rfl,rfl,λb=>rfl,rfl,aaj _,λx hx=>(by cases hx),λb o hb=>hr.Ko b o hb,
  λA1 r A2 e=>by simp at e,λA1 r A2 e=>by simp at e,λA1 x A2 y A3 e=>by simp at e⟩
 obtain⟨A,F⟩:=Ad S hF hC ops.toList 0 [] [] s h rfl (aaN _) (λk q hq=>by simp at hq) rfl F0 (λx hx=>(by cases hx)) hst he
 have V:Valid P ops s h A:=⟨by rw[F.js];exact acw,λi hi=>by
   have:i∈A.map (·.j):=by rw[F.js];exact abe.2 hi
   obtain⟨r,hr,hj⟩:=aa4.1 this;exact⟨r,hr,hj⟩,F.told,F.Vc,F.apart⟩
 exact Wj hmix V F.env F.size F.heap F.ro F.next F.nA ⟨rfl,rfl,rfl⟩ ρ w tm ds hr
theorem NK{rec:YX}(hF:Frames rec){g:FuncId}{args:List aaa}{h h':za}{v:aaa}(he:DV cls rec g args h=some (v,h')):AF h h':=by
 unfold DV at he;split at he
 ·split at he
  ·rename_i hrec;simp only[aab,aae]at he;obtain⟨_,rfl⟩:=he;exact hF _ _ _ _ hrec
  ·cases he
 ·split at he
  ·obtain⟨_,he⟩:=zo he;simp only[aab,aae]at he;obtain⟨_,rfl⟩:=he;exact .refl _
  ·cases he
 ·split at he
  ·rename_i hrec;simp only[aab,aae]at he;obtain⟨_,rfl⟩:=he;exact .wS (hF _ _ _ _ hrec).lock.1
  ·cases he
 ·cases he
theorem Mj{rec:YX}(hF:Frames rec){L:Nat}{args:List aaa}{h h':za}{v:aaa}(he:ri rec L args h=some (v,h')):AF h h':=by
 unfold ri at he;split at he
 case h_2=>cases he
 rename_i A hg;split at he
 case h_2=>cases he
 split at he
 case h_2=>cases he
 rename_i s1 h1 hrec;split at he
 case h_2=>cases he
 rename_i A1 g1;obtain⟨_,he⟩:=zo he;split at he
 case h_2=>cases he
 rename_i e s2 h2 hrec2;split at he
 case h_2=>cases he
 rename_i A2 g2;obtain⟨_,he⟩:=zo he;simp only[aab,aae]at he;obtain⟨rfl,rfl⟩:=he;exact(((hF _ _ _ _ hrec).trans (.Uk g1 _)).trans (hF _ _ _ _ hrec2)).trans (.Uk g2 _)
theorem Mg{rec:YX}(hF:Frames rec){rd:Option Nat}{f:Option aaa}{params:Array Tmp}{as bd:Code}{s:Env}{h h':za}{e:Ex}(he:re cls rec rd f params as bd s h=some (e,h')):AF h h':=by
 unfold re at he;split at he
 case h_2=>cases he
 obtain⟨_,he⟩:=zo he;split at he
 case h_2=>cases he
 rename_i v h1 hrec;split at he
 case h_2=>cases he
 rename_i A hA;obtain⟨_,he⟩:=zo he;split at he
 case h_2=>cases he
 simp only[aab,aae]at he;obtain⟨_,rfl⟩:=he;exact((AF.push _ _).trans (hF _ _ _ _ hrec)).trans (.Uk hA _)
theorem LI{rec:YX}(hF:Frames rec){s:Env}{o:Oper}{h h':za}{v:aaa}(he:evalOp P cls rec s o h=some (v,h')):AF h h':=by
 unfold evalOp at he;split at he
 ·split at he
  ·rename_i g fa fc vs _ _;cases hk:Nat.beq (cls.getD g 0) 0 with
   |true=>
    rw[hk]at he;simp only[aav]at he;exact(Xb he).af
   |false=>
    rw[hk]at he;simp only[aaB]at he;exact NK hF he
  ·obtain⟨_,he⟩:=zo he;exact Mj hF he
  ·cases he
 ·exact(Zz he).1
theorem hU{rec:YX}(hF:Frames rec){ops:Array Oper}:∀(l:List Oper) {s s':Env} {h h':za},QX P cls rec ops l s h=some (s',h')->AF h h'
 |[],s,s',h,h',he=>by
  simp only[QX,aab,aae]at he;obtain⟨_,rfl⟩:=he;exact .refl _
 |o::os,s,s',h,h',he=>by
  simp only[QX]at he;cases hw:yq ops s o with
  |false=>
   rw[hw]at he;simp only[aaB]at he;split at he
   ·exact hU hF os he
   ·cases he
  |true=>
   rw[hw]at he;simp only[aav]at he;split at he
   ·rename_i hev;split at he
    ·exact(LI hF hev).trans (hU hF os he)
    ·cases he
   ·cases he
theorem Hw{h g:za}{l:List Nat}(hn:h.next<=g.next)(hl:∀b,b∈l->∀o,g.get b=some o->h.get b≠none\/(h.next<=b/\b<g.next)):AF h (h.Rg g l):=⟨hn,rfl,λb o hb=>by
 rw[Jf]at hb;split at hb
 ·rename_i hm;exact hl b hm o hb
 ·exact .inl (by rw[hb];simp)⟩
theorem LF{rec:YX}(hF:Frames rec){ops:Array Oper}{recs:List lA}{mask i:Nat}{o:Oper}{os:List Oper}{s:Env}{h h1:za}{y:lA}(he:oY P cls rec ops recs mask i os o s h=some (y,h1)):AF h h1:=by
 unfold oY at he;cases hw:yq ops s o with
 |false=>
  rw[hw]at he;simp only[aaB,aab,aae]at he;obtain⟨_,rfl⟩:=he;exact .refl _
 |true=>
  rw[hw]at he;simp only[aav]at he;split at he
  ·split at he
   case h_2=>cases he
   split at he
   ·split at he
    case h_2=>cases he
    rename_i hrec;simp only[aab,aae]at he;obtain⟨_,rfl⟩:=he;have af:=hF _ _ _ _ hrec;refine⟨af.next,af.ro,λb o' hb=>?_⟩;rw[Zj]at hb;split at hb
    ·exact .inl (by rw[hb];simp)
    ·rcases af.alive b o' hb with h2|h2
     ·rw[uP]at h2;split at h2
      ·exact absurd rfl h2
      ·exact .inl h2
     ·exact .inr h2
   ·split at he
    case h_2=>cases he
    obtain⟨_,he⟩:=zo he;simp only[aab,aae]at he;obtain⟨_,rfl⟩:=he;exact .refl _
   ·split at he
    case h_2=>cases he
    rename_i hrec;simp only[aab,aae]at he;obtain⟨_,rfl⟩:=he;have:=(hF _ _ _ _ hrec).lock.1;exact .wS this
   ·split at he
    case h_2=>cases he
    rename_i v g' yk;simp only[aab,aae]at he;obtain⟨_,rfl⟩:=he;have af:=(Xb yk).af;refine Hw af.next (λb _ o' hb=>?_);rcases af.alive b o' hb with h2|h2
    ·rw[uq]at h2;split at h2
     ·exact .inl h2
     ·exact absurd rfl h2
    ·exact .inr h2
  ·split at he
   case h_2=>cases he
   rename_i v g' yk;simp only[aab,aae]at he;obtain⟨_,rfl⟩:=he;have af:=(Zz yk).1;refine Hw af.next (λb _ o' hb=>?_);rcases af.alive b o' hb with h2|h2
   ·rw[uq]at h2;split at h2
    ·exact .inl h2
    ·exact absurd rfl h2
   ·exact .inr h2
theorem Ab{rec:YX}(hF:Frames rec){ops:Array Oper}:∀(l:List Oper) (i:Nat) (ms:List Nat) (recs:List lA) {s s':Env} {h h':za},QK P cls rec ops l i ms recs s h=some (s',h')->AF h h'
 |[],i,ms,recs,s,s',h,h',he=>by
  simp only[QK,aab,aae]at he;obtain⟨_,rfl⟩:=he;exact .refl _
 |o::os,i,ms,recs,s,s',h,h',he=>by
  simp only[QK]at he;split at he
  case h_2=>cases he
  rename_i y h1 yk;obtain⟨_,he⟩:=zo he;split at he
  case h_2=>cases he
  exact(LF hF yk).trans (Ab hF os _ _ _ he)
theorem DT{rec:YX}(hF:Frames rec):Frames (body P cls rec):=by
 intro t h o h' he;cases t with
 |call f args=>
  simp only[body]at he;split at he
  case h_1=>cases he
  split at he
  case h_1=>cases he
  split at he
  ·rename_i hrec;split at he
   ·simp only[aab,aae]at he;obtain⟨_,rfl⟩:=he;exact hF _ _ _ _ hrec
   ·cases he
  ·rename_i hrec;split at he
   ·simp only[aab,aae]at he;obtain⟨_,rfl⟩:=he;exact hF _ _ _ _ hrec
   ·cases he
  ·cases he
 |code rd c s=>
  cases c <;> simp only[body]at he
  case skip=>simp only[aab,aae]at he;obtain⟨_,rfl⟩:=he;exact .refl _
  case label=>simp only[aab,aae]at he;obtain⟨_,rfl⟩:=he;exact .refl _
  case exit=>simp only[aab,aae]at he;obtain⟨_,rfl⟩:=he;exact .refl _
  case ret=>simp only[aab,aae]at he;obtain⟨_,rfl⟩:=he;exact .refl _
  case region id ops draw=>
   cases draw with
   |true=>
    simp only[aav]at he;obtain⟨_,he⟩:=zo he;split at he
    ·rename_i hd;simp only[aab,aae]at he;obtain⟨_,rfl⟩:=he;exact Ab hF _ _ _ _ hd
    ·cases he
   |false=>
    simp only[aaB]at he;split at he
    ·rename_i hd;simp only[aab,aae]at he;obtain⟨_,rfl⟩:=he;exact hU hF _ hd
    ·cases he
  case seq a b=>
   split at he
   ·rename_i hrec;exact(hF _ _ _ _ hrec).trans (hF _ _ _ _ he)
   ·exact hF _ _ _ _ he
  case cond x a b=>
   split at he
   ·exact hF _ _ _ _ he
   ·exact hF _ _ _ _ he
   ·cases he
  case block id a=>
   split at he
   ·rename_i id' s1 h1 hrec;cases hb:Nat.beq id' id with
    |true=>rw[hb]at he;simp only[aav,aab,aae]at he;obtain⟨_,rfl⟩:=he;exact hF _ _ _ _ hrec
    |false=>rw[hb]at he;simp only[aaB,aab,aae]at he;obtain⟨_,rfl⟩:=he;exact hF _ _ _ _ hrec
   ·exact hF _ _ _ _ he
  case scope a=>exact hF _ _ _ _ he
  case loop a=>
   split at he
   ·rename_i hrec;exact(hF _ _ _ _ hrec).trans (hF _ _ _ _ he)
   ·exact hF _ _ _ _ he
  case rangeFunc f params as bd=>
   split at he
   ·rename_i hr;simp only[aab,aae]at he;obtain⟨_,rfl⟩:=he;exact Mg hF hr
   ·cases he
  all_goals cases he
theorem FO{rec:YX}(S:Sound P rec)(hF:Frames rec)(hC:ZV P cls=true)(hmix:P.follows .mixedOrders=true):Sound P (body P cls rec):=by
 refine⟨?_,?_,?_,?_⟩
 ·intro rd c s h e s' h' he;cases c <;> simp only[body]at he
  case skip=>simp only[aab,aae,Out.ex.injEq]at he;obtain⟨⟨rfl,rfl⟩,rfl⟩:=he;exact MH ⟨rfl,rfl,rfl⟩
  case label=>simp only[aab,aae,Out.ex.injEq]at he;obtain⟨⟨rfl,rfl⟩,rfl⟩:=he;exact G1 ⟨rfl,rfl,rfl⟩
  case exit=>simp only[aab,aae,Out.ex.injEq]at he;obtain⟨⟨rfl,rfl⟩,rfl⟩:=he;exact MG ⟨rfl,rfl,rfl⟩
  case ret=>simp only[aab,aae,Out.ex.injEq]at he;obtain⟨⟨rfl,rfl⟩,rfl⟩:=he;exact So ⟨rfl,rfl,rfl⟩
  case region id ops draw=>
   cases draw with
   |true=>
    simp only[aav]at he;obtain⟨hst,he⟩:=zo he;split at he
    ·rename_i hd;simp only[aab,aae,Out.ex.injEq]at he;obtain⟨⟨rfl,rfl⟩,rfl⟩:=he;exact FX S hF hC hmix hst hd
    ·cases he
   |false=>
    simp only[aaB]at he;split at he
    ·rename_i hd;simp only[aab,aae,Out.ex.injEq]at he;obtain⟨⟨rfl,rfl⟩,rfl⟩:=he;refine Cq ?_;have:=QY S hC ops.toList 0 rfl hd;rw[abg,<- List.range_eq_range']at this;intro ρ w tm ds hr hs b k cs;obtain⟨s1,h1,ρ1,w1,tm1,⟨q1,q2⟩,r⟩:=this ρ w tm ds hr hs b k cs;exact⟨s1,h1,ρ1,w1,tm1,⟨rfl,q1,q2⟩,r⟩
    ·cases he
  case seq a b=>
   refine G4 ?_;split at he
   ·rename_i s1 h1 hrec;refine(S.code _ _ _ _ _ _ _ hrec).mono ?_;rintro e1 s2 h2 ⟨rfl,rfl,rfl⟩;exact S.code _ _ _ _ _ _ _ he
   ·rename_i hne;refine(S.code _ _ _ _ _ _ _ he).mono ?_;rintro e1 s2 h2 ⟨rfl,rfl,rfl⟩;cases e1 with
    |normal=>exact(hne _ _ he).elim
    |exit id=>exact⟨rfl,rfl,rfl⟩
    |ret=>exact⟨rfl,rfl,rfl⟩
  case cond x a b=>
   split at he
   ·rename_i hx;exact AP hx (by rw[aai rfl];exact S.code _ _ _ _ _ _ _ he)
   ·rename_i hx;exact AP hx (by rw[aag (by decide)];exact S.code _ _ _ _ _ _ _ he)
   ·cases he
  case block id a=>
   refine cZ ?_;split at he
   ·rename_i id' s1 h1 hrec;refine(S.code _ _ _ _ _ _ _ hrec).mono ?_;rintro e1 s2 h2 ⟨rfl,rfl,rfl⟩;cases hb:Nat.beq id' id with
    |true=>
     rw[hb]at he;simp only[aav,aab,aae,Out.ex.injEq]at he;obtain⟨⟨rfl,rfl⟩,rfl⟩:=he;rw[aak hb,aai rfl];exact⟨rfl,rfl,rfl⟩
    |false=>
     rw[hb]at he;simp only[aaB,aab,aae,Out.ex.injEq]at he;obtain⟨⟨rfl,rfl⟩,rfl⟩:=he
     rw[aag (by
      intro hc;cases hc;rw[ab0]at hb;cases hb)]
     exact⟨rfl,rfl,rfl⟩
   ·rename_i hne;refine(S.code _ _ _ _ _ _ _ he).mono ?_;rintro e1 s2 h2 ⟨rfl,rfl,rfl⟩;cases e1 with
    |normal=>rw[aag (by simp)];exact⟨rfl,rfl,rfl⟩
    |exit id'=>exact(hne _ _ _ he).elim
    |ret=>rw[aag (by simp)];exact⟨rfl,rfl,rfl⟩
  case scope a=>exact G2 (S.code _ _ _ _ _ _ _ he)
  case loop a=>
   refine Vu ?_;split at he
   ·rename_i s1 h1 hrec;refine(S.code _ _ _ _ _ _ _ hrec).mono ?_;rintro e1 s2 h2 ⟨rfl,rfl,rfl⟩;exact S.code _ _ _ _ _ _ _ he
   ·rename_i hne;refine(S.code _ _ _ _ _ _ _ he).mono ?_;rintro e1 s2 h2 ⟨rfl,rfl,rfl⟩;cases e1 with
    |normal=>exact(hne _ _ he).elim
    |exit id=>exact⟨rfl,rfl,rfl⟩
    |ret=>exact⟨rfl,rfl,rfl⟩
  case rangeFunc f params as bd=>
   split at he
   ·rename_i hr;simp only[aab,aae,Out.ex.injEq]at he;obtain⟨⟨rfl,rfl⟩,rfl⟩:=he;exact BZ S hC hr
   ·cases he
  all_goals cases he
 ·intro f args h v h' he;simp only[body]at he;split at he
  case h_1=>cases he
  rename_i fn hfn;split at he
  case h_1=>cases he
  rename_i c hc
  have fin:∀e s1 h1,(e=.normal\/e=.ret)->rec (.code none c (Env.enter args fn.ntmps)) h=some (.ex e s1,h1)->(match qF P s1 h1 fn.results.toList with|some vs=>some (Out.val (xV vs),h1)|none=>none)=some (.val v,h') ->
    TC P f args h (λv1 h1=>v1=v/\h1=h'):=by
   intro e s1 h1 hee hrec hres;split at hres
   ·rename_i vs hvs;simp only[aab,aae,Out.val.injEq]at hres;obtain⟨rfl,rfl⟩:=hres;refine GY hfn hc ((S.code _ _ _ _ _ _ _ hrec).mono ?_);rintro e1 s2 h2 ⟨rfl,rfl,rfl⟩;exact⟨hee,vs,hvs,rfl,rfl⟩
   ·cases hres
  split at he
  ·rename_i s1 h1 hrec;exact fin _ s1 h1 (.inl rfl) hrec he
  ·rename_i s1 h1 hrec;exact fin _ s1 h1 (.inr rfl) hrec he
  ·cases he
 ·intro rd c s h o h' he;cases c <;> simp only[body]at he
  case skip=>simp only[aab,aae]at he;obtain⟨rfl,_⟩:=he;exact⟨_,_,rfl⟩
  case label=>simp only[aab,aae]at he;obtain⟨rfl,_⟩:=he;exact⟨_,_,rfl⟩
  case exit=>simp only[aab,aae]at he;obtain⟨rfl,_⟩:=he;exact⟨_,_,rfl⟩
  case ret=>simp only[aab,aae]at he;obtain⟨rfl,_⟩:=he;exact⟨_,_,rfl⟩
  case region id ops draw=>
   cases draw with
   |true=>
    simp only[aav]at he;obtain⟨_,he⟩:=zo he;split at he
    ·simp only[aab,aae]at he;obtain⟨rfl,_⟩:=he;exact⟨_,_,rfl⟩
    ·cases he
   |false=>
    simp only[aaB]at he;split at he
    ·simp only[aab,aae]at he;obtain⟨rfl,_⟩:=he;exact⟨_,_,rfl⟩
    ·cases he
  case seq a b=>
   split at he
   ·exact S.kind _ _ _ _ _ _ he
   ·exact S.kind _ _ _ _ _ _ he
  case cond x a b=>
   split at he
   ·exact S.kind _ _ _ _ _ _ he
   ·exact S.kind _ _ _ _ _ _ he
   ·cases he
  case block id a=>
   split at he
   ·rename_i id' s1 h1 hrec;cases hb:Nat.beq id' id with
    |true=>rw[hb]at he;simp only[aav,aab,aae]at he;obtain⟨rfl,_⟩:=he;exact⟨_,_,rfl⟩
    |false=>rw[hb]at he;simp only[aaB,aab,aae]at he;obtain⟨rfl,_⟩:=he;exact⟨_,_,rfl⟩
   ·exact S.kind _ _ _ _ _ _ he
  case scope a=>exact S.kind _ _ _ _ _ _ he
  case loop a=>
   split at he
   ·exact S.kind _ _ _ _ _ _ he
   ·exact S.kind _ _ _ _ _ _ he
  case rangeFunc f params as bd=>
   split at he
   ·simp only[aab,aae]at he;obtain⟨rfl,_⟩:=he;exact⟨_,_,rfl⟩
   ·cases he
  all_goals cases he
 ·intro f args h o h' he;simp only[body]at he;split at he
  case h_1=>cases he
  split at he
  case h_1=>cases he
  split at he
  ·split at he
   ·simp only[aab,aae]at he;obtain⟨rfl,_⟩:=he;exact⟨_,rfl⟩
   ·cases he
  ·split at he
   ·simp only[aab,aae]at he;obtain⟨rfl,_⟩:=he;exact⟨_,rfl⟩
   ·cases he
  ·cases he
theorem E1(hC:ZV P cls=true)(hmix:P.follows .mixedOrders=true):∀n,Sound P (run P cls n)/\Frames (run P cls n)
 |0=>⟨⟨λrd c s h e s' h' he=>(by cases he),λf args h v h' he=>(by cases he),λrd c s h o h' he=>(by cases he),λf args h o h' he=>(by cases he)⟩,λt h o h' he=>(by cases he)⟩
 |n+1=>by
  obtain⟨S,F⟩:=E1 hC hmix n;exact⟨FO S F hC hmix,DT F⟩
theorem IW(hC:ZV P cls=true)(hmix:P.follows .mixedOrders=true){n:Nat}{f:FuncId}{args:List aaa}{h h':za}{v:aaa}(he:run P cls n (.call f args) h=some (.val v,h')):TC P f args h (λv1 h1=>v1=v/\h1=h') :=
 (E1 hC hmix n).1.call _ _ _ _ _ he
def Cc(n:Nat)(tabs:List (Nat×List aaa)):za:=⟨tabs.foldl (λt x=>t.set x.1 (some (.tab x.2))) .e,n,n⟩
theorem cG{n:Nat}{tabs:List (Nat×List aaa)}{b:Nat}{o:vl}(h:(Cc n tabs).get b=some o):∃c,(b,c)∈tabs/\o=.tab c:=by
 have key:∀(l:List (Nat×List aaa)) (t:Tr vl),(l.foldl (λt x=>t.set x.1 (some (.tab x.2))) t).get b=some o->(∃c,(b,c)∈l/\o=.tab c)\/t.get b=some o:=by
  intro l
  induction l with
  |nil=>intro t h;exact .inr h
  |cons x l ih=>
   intro t h;rw[acm]at h;rcases ih _ h with⟨c,h1,h2⟩|h1
   ·exact .inl ⟨c,by simp[h1],h2⟩
   ·rw[Tr.yy]at h1;split at h1
    ·rename_i e;simp only[aab]at h1;subst e;exact .inl ⟨x.2,by simp,h1.symm⟩
    ·exact .inr h1
 rcases key tabs .e h with h1|h1
 ·exact h1
 ·cases h1
def Cm(w:World)(g:Nat)(c:List aaa):Prop := ∃cs t fz,w.heap[g]? = some (.cells cs t fz) /\ ∀(i:Nat) x,c[i]? = some x->cs[i]? = some x
theorem GK(P:Program)(w:World)(n:Nat)(tabs:List (Nat×List aaa))(hn:P.globals.size<=n)(hg:∀x,x∈tabs->x.1<n/\x.2.all flat=true/\Cm w x.1 x.2) :
  Rel P ⟨n,λg=>some ⟨g,0,(match w.heap[g]? with|some (.cells cs _ _)=>cs.size|_=>0),0⟩⟩ (Cc n tabs) w:=by
 refine⟨rfl,aaj _,λb o h=>?_,λb o h=>?_,λb1 b2 o1 o2 p1 p2 h1 h2 m1 m2 e=>?_,hn,λb pl _ h=>?_⟩
 ·obtain⟨c,h1,_⟩:=cG h;exact(hg _ h1).1
 ·obtain⟨c,h1,rfl⟩:=cG h;obtain⟨_,h2,cs,t,fz,h3,h4⟩:=hg _ h1;refine⟨_,rfl,t,cs,fz,h3,by simp only[h3],⟨rfl,Nat.zero_mod _⟩,?_,λe=>(by cases e),λi x hx=>⟨x,by simpa using h4 i x hx,?_⟩⟩
  ·show 0+c.length<=cs.size;rcases aaL cs.size c.length with hl|hl
   ·have h5:=h4 cs.size _ (aaf hl);simp at h5
   ·omega
  ·simp only[aaD]at h2;exact .of_flat _ (h2 x (aax hx))
 ·simp only[aab]at m1 m2;subst m1 m2;exact e
 ·simp only[aab]at h;subst h;exact⟨rfl,rfl⟩
theorem Mn{ρ:xo}{v v':aaa}(hv:hZ v=true)(hvr:zH ρ v v'):v'=v:=by
 cases v with
 |tuple a=>
  cases hvr with
  |tuple ha hr=>
   simp only[hZ,aaD]at hv
   congr 1
   apply abY;refine pL (by simpa using ha) (λi x y hx hy=>?_);exact kp (hr i x y (by simpa using hx) (by simpa using hy)) (hv x (aax hx))
 |_=>exact kp hvr hv
end
noncomputable section
variable {P:Program}{cls:List Nat}
def seen(k:Nat)(bs:List Nat):Option (Out×za)->Option (List aaa×List (Option vl)×Nat×Nat×Nat)
 |some (.ex .normal s,h)=>some ((List.range k).map s.get,bs.map h.get,s.size,h.next,h.ro)
 |_=>none
end
noncomputable section
variable {P:Program}{cls:List Nat}
end
noncomputable section
open Go.ChangeShapes Go.WideShapes Go.ChangeAt Go.RowKit
variable {P:Program}{H:Type}{enc:TypeId×aaa->H}
theorem post_of_below{f:Func}{s:ChangeSpec}{apart fresh handsOn again:Bool}{W W':World}{args:Array aaa}{v:aaa}{ds gs:List (DataW H)}{before pa pv:List MemPlace}
  (hW:DataW.Whole enc P f.params.toList s.vars apart W args.toList ds gs before)
  (hres:∀(b:Nat) (sp:Nat->Bool) (hd:Bool),DataW.TrodAll enc P W' b sp hd f.resultTypes.toList (v.resultList f.resultTypes.size) (s.fn H (ds++gs)).results [])
  (hargs:∀sp:Nat->Bool,(∀p∈before,sp p.block=true)->DataW.TrodAll enc P W' 0 sp true f.params.toList args.toList (s.fn H (ds++gs)).args pa)
  (hvars:∀sp:Nat->Bool,(∀p∈before,sp p.block=true)->DataW.TrodVars enc P W' sp s.vars (s.fn H (ds++gs)).vars pv)
  (hps:before=pa++pv) (hb:Below W.heap.size W W')
  (hok:∀(j:Nat) (t:TypeId) (r:aaa),f.resultTypes[j]? = some t->(v.resultList f.resultTypes.size)[j]? = some r->Value.okWide P W' .any 0 t r) :
  s.post enc P f apart fresh handsOn again W args v W':=by
 have hold:∀p∈before,(λb=>decide (b<W.heap.size)) p.block=true:=λp hp=>by simpa using hW.lt p hp
 refine⟨ds,gs,before,[],pa,pv,hW,hres _ _ _,hargs _ hold,hvars _ hold,hb.frame _,λ_=>?_⟩;have hlt:∀p∈before,p.block<W.heap.size:=λp hp=>hW.lt p hp;obtain⟨_,_,_,_,_,hz,hn⟩:=hW;refine⟨hok,_,_,([]++pa)++pv,⟨[]++pa,pv,trodAll_append (hargs _ (λ_ _=>rfl)) (hres _ _ _),hvars _ (λ_ _=>rfl),rfl,?_,?_⟩,?_⟩
 ·intro b off hp;have hp':MemPlace.cell b off∈before:=by rw[hps];simpa using hp
  rw[hb.frozen (p:=⟨b,off,none⟩) (hlt _ hp')];exact hz b off hp'
 ·intro ha;have:=hn ha;rw[hps]at this;simpa using this
 ·intro p hp _;rw[hps];simpa using hp
def zaH:Option (Out×za)->Bool
 |some (.val (.bool b),_)=>b
 |_=>false
theorem Rt{x:Option (Out×za)}(h:zaH x=true):∃h',x=some (.val (.bool true),h'):=by
 unfold zaH at h;split at h
 ·subst h;exact⟨_,rfl⟩
 ·cases h
end
noncomputable section
variable {P:Program}
theorem Fk{f:FuncId}{v:aaa}{m:Nat}{tabs:List (Nat×List aaa)}(hv:hZ v=true)(hn:P.globals.size<=m)(hfl:∀x,x∈tabs->x.1<m/\x.1<P.globals.size/\x.2.all flat=true)(ht:TC P f [] (Cc m tabs) (λv1 _=>v1=v)){h:za}
  (hh:∀x,x∈tabs->∃c t,h.get x.1=some (.cells c t) /\ ∀(i:Nat) y,x.2[i]? = some y->c[i]? = some y):TC P f [] h (λv1 h1=>v1=v/\h1=h):=by
 intro ρ w cargs hr hvl
 have hT:∀x,x∈tabs->x.1<m/\x.2.all flat=true/\Cm w x.1 x.2:=by
  intro x hx;obtain⟨f1,f2,f3⟩:=hfl x hx;refine⟨f1,f3,?_⟩;obtain⟨c,t,hc,hce⟩:=hh x hx;obtain⟨pl,hm,cs,fz,h1,h2,h3,h4,h5,h6⟩:=hr.ok x.1 _ hc;obtain⟨g1,g2⟩:=hr.Yn x.1 pl f2 hm;refine⟨cs,t,fz,by rw[<- g1];exact h1,λi y hy=>?_⟩;obtain⟨z,hz,hzz⟩:=h6 i y (hce i y hy);simp only[g2,abz]at hz;rw[hz];simp only[aaD]at f3;rw[kp hzz (f3 y (aax hy))]
 refine(ht _ w cargs (GK P w m tabs hn hT) ?_).mono λe w'=>?_
 ·cases hvl.uG;exact .nil _
 rintro⟨v1,v',h1,ρ',rfl,rfl,st,hvr⟩
 have hsame:∀c,c<w.heap.size->w'.heap[c]? = w.heap[c]?:=λc hc=>st.frame c hc (by
  rintro⟨b,o,pl,hb,hro,_⟩;obtain⟨c',hc',_⟩:=cG hb;have h1:=(hfl _ hc').1;have h2:m<=b:=hro;omega)
 exact⟨v1,v',h,ρ,rfl,⟨rfl,rfl⟩,⟨xo.le_refl _,hr.grow hsame,rfl,st.os,st.tape,st.output,st.size,λc hc _=>hsame c hc,λc _ hm=>hm⟩,II hvr hv ρ⟩
end
noncomputable section
variable {P:Program}
def Ng(n:Nat):aaa->aaa
 | .bool b => .bool b
 | .int k i => .int k i
 | .float k i => .float k i
 | .string s => .string s
 | .pointer none => .pointer none
 | .pointer (some ⟨b,off,none⟩)=>cond (Nat.blt b n) (.pointer (some ⟨b,off,none⟩)) bot
 | .slice none 0 0 => .slice none 0 0
 | .slice (some _) 0 0 => .slice (some ⟨0,0,none⟩) 0 0
 | .slice (some ⟨b,off,none⟩) l c=>cond (Nat.blt b n&&Nat.ble l c) (.slice (some ⟨b,off,none⟩) l 0) bot
 | .nilFunc => .nilFunc
 | .nilIface => .nilIface
 | .map none => .map none
 |_=>bot
def GU(f:Nat->Option vl):Nat->Tr vl
 |0 => .e
 |n+1=>(GU f n).set n (f n)
theorem Eh(f:Nat->Option vl)(n k:Nat):(GU f n).get k=if k<n then f k else none:=by
 induction n with
 |zero=>simp[GU]
 |succ n ih=>
  rw[GU,Tr.yy,ih];by_cases h:k=n
  ·subst h;rw[aai rfl,aai (by omega)]
  ·rw[aag h];by_cases h2:k<n
   ·rw[aai h2,aai (by omega)]
   ·rw[aag h2,aag (by omega)]
def aH(P:Program)(w:World):xo:=⟨max w.heap.size P.globals.size+1,λb=>match w.heap[b]? with
 |some (.cells cs t _)=>some ⟨b,0,cs.size,P.cellsOf t⟩
 |_=>some ⟨b,0,0,1⟩⟩
theorem fw(P:Program)(w:World)(b:Nat):∃pl,(aH P w).m b=some pl/\pl.c=b/\pl.base=0:=by
 unfold aH;simp only;split
 ·exact⟨_,rfl,rfl,rfl⟩
 ·exact⟨_,rfl,rfl,rfl⟩
theorem Nh(P:Program)(w:World){v:aaa}(h:xj v=true):zH (aH P w) (Ng w.heap.size v) v:=by
 have un:(∀b,v ≠ .bool b)->zH (aH P w) bot v:=λhb => .pW (by
  cases v with
  |bool b=>exact absurd rfl (hb b)
  |agg _=>cases h
  |tuple _=>cases h
  |_=>rfl)
 have lt:∀{b:Nat},Nat.blt b w.heap.size=true->b<(aH P w).next:=λ{b} hb=>by
  have h1:b<w.heap.size:=by simpa [aaM] using hb
  show b<max w.heap.size P.globals.size+1;omega
 unfold Ng;split
 ·exact .bool _
 ·exact .int _ _
 ·exact .float _ _
 ·exact .string _
 ·exact .ptrNil
 ·rename_i b off;cases hb:Nat.blt b w.heap.size with
  |true=>
   obtain⟨pl,hm,hc,h0⟩:=fw P w b;have:=zH.ptr (ρ:=aH P w) (off:=off) (lt hb) hm;rw[hc,h0,abz]at this;exact this
  |false=>exact un (λb h=>by cases h)
 ·exact .sliceNil _
 ·exact .sliceOut (show 0<max w.heap.size P.globals.size+1 by omega) (by decide)
 ·rename_i b off l c hne;cases hb:Nat.blt b w.heap.size&&Nat.ble l c with
  |true=>
   obtain⟨pl,hm,hc,h0⟩:=fw P w b;simp only[aad]at hb;have:=zH.slice (ρ:=aH P w) (off:=off) (c:=0) (lt hb.1) hm (aaE hb.2) (λh=>absurd rfl h);rw[hc,h0,abz]at this;exact this
  |false=>exact un (λb h=>by cases h)
 ·exact .nilFunc
 ·exact .nilIface
 ·exact .mapNil
 ·rename_i h1 h2 h3 h4 h5 h6 h7 h8 h9 h10 h11 h12;exact un (λb h=>h1 b h)
theorem A7(P:Program)(w:World):∀v:aaa,∃x,zH (aH P w) x v
 | .agg a=>by
   have h:∀i:Fin a.size,∃x,zH (aH P w) x a[i]:=λi=>A7 P w a[i];obtain⟨f,hf⟩:=Classical.axiomOfChoice h;refine⟨.agg (Array.ofFn f),.agg (by simp) (λi x y hx hy=>?_)⟩
   have hi:i<a.size:=by
    rcases aaL i a.size with q|q
    ·exact q
    ·rw[aaH q]at hy;cases hy
   rw[aaI hi]at hy;simp only[aab]at hy;subst hy;rw[aaI (by simpa using hi)]at hx;simp only[aab,Array.getElem_ofFn]at hx;subst hx;exact hf ⟨i,hi⟩
 | .tuple a=>by
   have h:∀i:Fin a.size,∃x,zH (aH P w) x a[i]:=λi=>A7 P w a[i];obtain⟨f,hf⟩:=Classical.axiomOfChoice h;refine⟨.tuple (Array.ofFn f),.tuple (by simp) (λi x y hx hy=>?_)⟩
   have hi:i<a.size:=by
    rcases aaL i a.size with q|q
    ·exact q
    ·rw[aaH q]at hy;cases hy
   rw[aaI hi]at hy;simp only[aab]at hy;subst hy;rw[aaI (by simpa using hi)]at hx;simp only[aab,Array.getElem_ofFn]at hx;subst hx;exact hf ⟨i,hi⟩
 | .bool b=>⟨_,.bool b⟩
 | .int _ _ | .float _ _ | .complex _ _ _ | .string _ | .pointer _ | .slice _ _ _ | .map _ | .nilFunc | .func _ _ _ | .nilIface | .iface _ _ | .chan _=>⟨bot,.pW rfl⟩
 termination_by v=>SizeOf.sizeOf v
 decreasing_by
  all_goals
   have:=Array.sizeOf_lt_of_mem (Array.getElem_mem i.2);simp only[Value.agg.sizeOf_spec,Value.tuple.sizeOf_spec];simp only[Fin.getElem_fin]at this ⊢;omega
def UB(P:Program)(w:World)(v:aaa):aaa:=if xj v=true then Ng w.heap.size v else Classical.choose (A7 P w v)
theorem en(P:Program)(w:World)(v:aaa):zH (aH P w) (UB P w v) v:=by
 unfold UB;split
 ·rename_i h;exact Nh P w h
 ·exact Classical.choose_spec (A7 P w v)
theorem J6{w:World}{v:aaa}(h:xj v=true):UB P w v=Ng w.heap.size v:=aai h
def Nf(P:Program)(w:World)(b:Nat):Option vl:=match w.heap[b]? with
 |some (.cells cs t _)=>some (.cells (cs.toList.map (UB P w)) t)
 |_=>none
def absH(P:Program)(w:World):za:=⟨GU (Nf P w) w.heap.size,max w.heap.size P.globals.size+1,max w.heap.size P.globals.size+1⟩
theorem po{w:World}{b:Nat}{o:vl}(h:(absH P w).get b=some o):b<w.heap.size /\ ∃cs t fz,w.heap[b]? = some (.cells cs t fz)/\o=.cells (cs.toList.map (UB P w)) t:=by
 have h2:(GU (Nf P w) w.heap.size).get b=some o:=h;rw[Eh]at h2;split at h2
 case isFalse=>cases h2
 rename_i hb;refine⟨hb,?_⟩;unfold Nf at h2;split at h2
 ·rename_i cs t fz hw;simp only[aab]at h2;exact⟨cs,t,fz,hw,h2.symm⟩
 ·cases h2
theorem Nd{w:World}{b:Nat}{cs:Array aaa}{t:TypeId}{fz:Nat×Nat}(h:w.heap[b]? = some (.cells cs t fz)):(absH P w).get b=some (.cells (cs.toList.map (UB P w)) t):=by
 have hb:b<w.heap.size:=Yj h;show(GU (Nf P w) w.heap.size).get b=_;rw[Eh,aai hb];unfold Nf;rw[h]
theorem EX(P:Program)(w:World):Rel P (aH P w) (absH P w) w:=by
 refine⟨rfl,aaj _,λb o h=>?_,λb o h=>?_,λb1 b2 o1 o2 p1 p2 _ _ h1 h2 e=>?_,Nat.le_succ_of_le (Nat.le_max_right _ _),λb pl _ h=>?_⟩
 ·have:=(po h).1;show b<max w.heap.size P.globals.size+1;omega
 ·obtain⟨hb,cs,t,fz,hw,rfl⟩:=po h;refine⟨⟨b,0,cs.size,P.cellsOf t⟩,by simp only[aH,hw],?_⟩;refine⟨cs,fz,hw,rfl,⟨rfl,Nat.zero_mod _⟩,by simp,λhd=>?_,λi x hx=>?_⟩
  ·have hd:max w.heap.size P.globals.size+1<=b:=aa1 hd;omega
  ·simp only[aaA,aas]at hx;obtain⟨y,hy,rfl⟩:=hx;exact⟨y,by simpa using hy,en P w y⟩
 ·obtain⟨q1,a1,b1,c1⟩:=fw P w b1;obtain⟨q2,a2,b2,c2⟩:=fw P w b2;rw[h1]at a1;rw[h2]at a2;cases a1;cases a2;omega
 ·obtain⟨q1,a1,b1,c1⟩:=fw P w b;rw[h]at a1;cases a1;exact⟨b1,c1⟩
theorem Calls_of_TCW{f:FuncId}{args vs:List aaa}{v:aaa}(w:World)(ha:wG (aH P w) args vs)(hv:hZ v=true)(ht:TC P f args (absH P w) (λv1 _=>v1=v)) :
  Calls P f vs.toArray w λe w'=>e=.returned v/\RowKit.Below w.heap.size w w':=by
 refine(ht _ w vs (EX P w) ha).mono λe w'=>?_;rintro⟨v1,v',h1,ρ',rfl,rfl,st,hvr⟩;refine⟨by rw[Mn hv hvr],st.os,st.tape,st.output,st.size,λk hk=>st.frame k hk ?_⟩;rintro⟨b,o,pl,hb,hro,_⟩;have h1:=(po hb).1;have h2:max w.heap.size P.globals.size+1<=b:=hro;omega
end
noncomputable section
variable {P:Program}
section
variable {h:za}{t e:TypeId}{cs:List aaa}{k:IntKind}
end
section
variable {H:Type}{enc:TypeId×aaa->H}{w:World}{held:Bool}
theorem Na(k:IntKind)(i:Int):UB P w (.int k i)=.int k i:=by rw[J6 rfl];rfl
theorem Lf(b:Bool):UB P w (.bool b)=.bool b:=by rw[J6 rfl];rfl
theorem Dv(s:ByteArray):UB P w (.string s)=.string s:=by rw[J6 rfl];rfl
theorem Nb:UB P w (.slice none 0 0)=.slice none 0 0:=by rw[J6 rfl];rfl
theorem Nc(a:Addr):UB P w (.slice (some a) 0 0)=.slice (some ⟨0,0,none⟩) 0 0:=by rw[J6 rfl];rfl
theorem FF{b off len cap:Nat}(h0:0<cap)(hl:len<=cap)(hb:b<w.heap.size):UB P w (.slice (some ⟨b,off,none⟩) len cap)=.slice (some ⟨b,off,none⟩) len 0:=by
 rw[J6 rfl];have h1:(Nat.blt b w.heap.size&&Nat.ble len cap)=true:=by simp[aaM,hb,hl]
 obtain⟨c,rfl⟩:∃c,cap=c+1:=⟨cap-1,by omega⟩;simp only[Ng,h1,aav]
theorem DZ{base:Nat}{a:Addr}{n:Nat}{l:List aaa}(h:w.cells? base a n=some l)(h0:0<n):∃cs t fz,w.heap[a.block]? = some (.cells cs t fz)/\a.spot=none/\a.off+n<=cs.size/\l=(cs.toList.drop a.off).take n:=by
 obtain⟨_,hl,hc⟩:=World.cells?_some h
 have hat:∀i,i<n->∃cs t fz,w.heap[a.block]? = some (.cells cs t fz)/\(i=0->a.spot=none)/\cs[a.off+i]? = l[i]? /\ a.off+i<cs.size:=by
  intro i hi;have h1:=hc i (by omega);have hb:(a.add i).block=a.block:=by unfold Addr.add;split <;> rfl
  have ho:(a.add i).off=a.off+i:=by unfold Addr.add;split <;> simp_all
  unfold World.cell? at h1;rw[hb,ho]at h1;have hli:∃v,l[i]? = some v:=⟨l[i],aaf (by omega)⟩;obtain⟨v,hv⟩:=hli;split at h1
  ·rename_i cs t fz hw;refine⟨cs,t,fz,hw,λe=>?_,?_,?_⟩
   ·subst e;have:a.add 0=a:=by unfold Addr.add;simp
    rw[this]at h1;cases hs:a.spot with
    |none=>rfl
    |some x=>rw[hs]at h1;simp at h1;rw[h1]at hv;cases hv
   ·split at h1
    ·rw[hv]at h1;cases h1
    ·exact h1
   ·split at h1
    ·rw[hv]at h1;cases h1
    ·rw[hv]at h1;rcases aaL (a.off+i) cs.size with q|q
     ·exact q
     ·rw[aaH q]at h1;cases h1
  ·rw[hv]at h1;cases h1
 obtain⟨cs,t,fz,hw,hs,_⟩:=hat 0 h0;refine⟨cs,t,fz,hw,hs rfl,?_,?_⟩
 ·obtain⟨cs',t',fz',hw',_,_,hlt⟩:=hat (n-1) (by omega);rw[hw]at hw';cases hw';omega
 ·apply abV;intro i;by_cases hi:i<n
  ·obtain⟨cs',t',fz',hw',_,he,_⟩:=hat i hi;rw[hw]at hw';cases hw';rw[<- he,aa0 hi,aaS];simp
  ·rw[aat (by omega),aat (by simp;omega)]
end
end
noncomputable section
variable {P:Program}
def A6(P:Program)(w:World):aaa->aaa
 | .agg a => .agg (a.map (UB P w))
 |v=>UB P w v
theorem M9(P:Program)(w:World)(v:aaa):zH (aH P w) (A6 P w v) v:=by
 unfold A6;split
 ·rename_i a;refine .agg (by simp) (λi x y hx hy=>?_);simp only[Array.getElem?_map,hy,abN,aab]at hx;subst hx;exact en P w y
 ·exact en P w _
def Uj:aaa->Bool
 | .agg _=>false
 |_=>true
theorem iS{w:World}{v:aaa}(h:Uj v=true):Uj (UB P w v)=true:=by
 have:=en P w v;cases v with
 |agg=>cases h
 |_=>
  generalize UB P w _=x at this;cases this <;> rfl
theorem WD{v:aaa}(h:Uj v=true):v.cells.toList=[v]:=by
 cases v <;> first|rfl|cases h
theorem FE(P:Program)(w:World)(v:aaa):(A6 P w v).cells.toList=v.cells.toList.map (UB P w):=by
 cases hv:Uj v with
 |false=>cases v <;> first|(simp[A6,Value.cells];done)|cases hv
 |true=>
  have e:A6 P w v=UB P w v:=by cases v <;> first|rfl|cases hv
  rw[e,WD hv,WD (iS hv)];rfl
theorem Du{w:World}{v:aaa}(h:Uj v=true):Uj (A6 P w v)=true:=by
 have e:A6 P w v=UB P w v:=by cases v <;> first|rfl|cases h
 rw[e];exact iS h
def Eo(P:Program)(t:TypeId):Bool:=match P.underlying t with
 |some (.struct _)|some (.array _ _)=>true
 |_=>false
theorem agg_of{a:aaa}{l:List aaa}(h:a.cells.toList=l)(hl:l.length≠1):a=.agg l.toArray:=by
 cases ha:Uj a with
 |true=>rw[WD ha]at h;subst h;exact absurd rfl hl
 |false=>
  cases a with
  |agg c=>subst h;rfl
  |_=>cases ha
theorem BS{w:World}{r:Reach}{base:Nat}{t:TypeId}{v:aaa}(h:Value.okWide P w r base t v)(hr:Eo P t=false):Uj v=true:=by
 cases v with
 |agg c=>
  exfalso;unfold Eo at hr;unfold Value.okWide at h;split at hr
  ·cases hr
  ·cases hr
  ·rename_i n1 n2;split at h
   ·rename_i fs hu;exact n1 _ hu
   ·rename_i m e hu;exact n2 _ _ hu
   ·unfold Cell.okWide at h;split at h <;> first|(rename_i hh;cases hh;done)|skip
    all_goals first
     |(rename_i h2 h3;cases h3;done)
     |skip
    unfold Cell.ok at h;split at h <;> first|exact h|(rename_i h2 h3;cases h3)
 |_=>rfl
section
variable {H:Type}{enc:TypeId×aaa->H}{w:World}{held:Bool}
def kidsOk(P:Program)(l:List TypeId):Bool:=l.all λt=>match P.underlying t with
 |some (.pointer e)=>l.contains e
 |some (.slice e)=>l.contains e&&Nat.blt 0 (P.cellsOf e)
 |some (.array _ _)=>false
 |some (.map _ _)=>false
 |some (.struct fs)=>(fs.toList.all λf=>l.contains f.type)&&Nat.beq (P.cellsOf t) ((fs.toList.map λf=>P.cellsOf f.type).sum)&&(List.range fs.size).all λj=>match fs.toList[j]? with
  |some f=>Nat.beq f.offset ((fs.toList.take j).map λf=>P.cellsOf f.type).sum
  |none=>true
 |_=>true
theorem P8{l:List TypeId}(h:kidsOk P l=true):Kids P (· ∈ l) /\ ∀{t e:TypeId},t∈l->P.underlying t=some (.slice e)->0<P.cellsOf e:=by
 unfold kidsOk at h;rw[aaD]at h;refine⟨⟨λht hu=>?_,λht hu=>?_,λht hu=>?_,λht hu=>?_,λht hu=>?_⟩,λht hu=>?_⟩
 ·have:=h _ ht;rw[hu]at this;simpa using this
 ·have:=h _ ht;rw[hu]at this;simp only[aad]at this;simpa using this.1
 ·have:=h _ ht;rw[hu]at this;cases this
 ·rename_i t fs;have:=h _ ht;rw[hu]at this;simp only[aad,aaD]at this;obtain⟨⟨h1,h2⟩,h3⟩:=this;refine⟨λf hf=>by simpa using h1 f hf,aak h2,λj f hj=>?_⟩
  have hlt:j<fs.size:=by
   rcases aaL j fs.toList.length with q|q
   ·simpa using q
   ·rw[aat q]at hj;cases hj
  have:=h3 j (by simpa using hlt);rw[hj]at this;exact aak this
 ·have:=h _ ht;rw[hu]at this;cases this
 ·have:=h _ ht;rw[hu]at this;simp only[aad]at this;simpa [aaM] using this.2
theorem GN{w w':World}(hb:RowKit.Below w.heap.size w w'){p:MemPlace}(hp:p.block<w.heap.size):w.sameAt w' p:=by
 cases p with
 |cell b off=>
  have hk:=hb.block b hp;show w'.cell? _=w.cell? _;unfold World.cell?;simp only[hk]
 |map b=>exact hb.block b hp
theorem args_stay{l:List TypeId}(hk:kidsOk P l=true){w':World}(hb:RowKit.Below w.heap.size w w'){sp:Nat->Bool}:∀(ts:List TypeId) (vs:List aaa) (ds:List (DataW H)) (p:List MemPlace),DataW.TrodAll enc P w 0 (λ_=>true) true ts vs ds p ->
  (∀t,t∈ts->t∈l)->(∀x,x∈p->x.block<w.heap.size)->(∀x,x∈p->sp x.block=true)->DataW.TrodAll enc P w' 0 sp true ts vs ds p
 |[],[],[],p,h,ht,hl,hs=>h
 |t::ts,v::vs,d::ds,p,h,ht,hl,hs=>by
  obtain⟨p1,q1,⟨n,h1⟩,h2,rfl⟩:=h;obtain⟨K,hsz⟩:=P8 hk;refine⟨p1,q1,⟨n,?_⟩,args_stay hk hb ts vs ds q1 h2 (λt h=>ht t (by simp[h])) (λx hx=>hl x (by simp[hx])) (λx hx=>hs x (by simp[hx])),rfl⟩;exact DataW.trod_stays K hsz (λe=>by cases e) (ht t (by simp)) h1 (λx hx=>GN hb (hl x (by simp[hx]))) (λx hx=>hs x (by simp[hx]))
 |[],_::_,_,p,h,_,_,_=>by cases h
 |[],[],_::_,p,h,_,_,_=>by cases h
 |_::_,[],_,p,h,_,_,_=>by cases h
 |_::_,_::_,[],p,h,_,_,_=>by cases h
end
end
noncomputable section
variable {P:Program}
def RW(P:Program)(h:za):Nat->TypeId->List aaa->Prop
 |0,_,_=>False
 |n+1,t,cs=>match P.underlying t with
  |some .bool=>∃b,cs=[.bool b]
  |some (.int k)=>∃i,cs=[.int k i]/\(Lit.int k i).wf=true
  |some .string=>∃s:ByteArray,cs=[.string s]/\s.size<=maxLen
  |some (.slice e)=>0<P.cellsOf e->cs=[.slice none 0 0] \/ ∃b off len,cs=[.slice (some ⟨b,off,none⟩) len 0]/\len*P.bytesOf e<=reachBytes/\(0<len->∃c t',h.get b=some (.cells c t') /\
    ∀i,i<len->off+i*P.cellsOf e+P.cellsOf e<=c.length/\RW P h n e ((c.drop (off+i*P.cellsOf e)).take (P.cellsOf e)))
  |some (.struct fs)=>cs.length=P.cellsOf t /\ ∀f,f∈fs->RW P h n f.type ((cs.drop f.offset).take (P.cellsOf f.type))
  |_=>True
def cY(P:Program)(h:za)(t:TypeId)(cs:List aaa):Prop := ∃n,RW P h n t cs
section
variable {h:za}{t e:TypeId}{cs:List aaa}{k:IntKind}
theorem rw_int(hu:P.underlying t=some (.int k))(r:cY P h t cs):∃i,cs=[.int k i]/\(Lit.int k i).wf=true:=by
 obtain⟨n,r⟩:=r;cases n with
 |zero=>exact r.elim
 |succ n=>simpa only[RW,hu] using r
theorem Ml(hu:P.underlying t=some .string)(r:cY P h t cs):∃s:ByteArray,cs=[.string s]/\s.size<=maxLen:=by
 obtain⟨n,r⟩:=r;cases n with
 |zero=>exact r.elim
 |succ n=>simpa only[RW,hu] using r
theorem ru(hu:P.underlying t=some (.slice e)){sz bz:Nat}(hs:P.cellsOf e=sz)(hb:P.bytesOf e=bz)(h0:0<sz)(r:cY P h t cs):cs=[.slice none 0 0] \/ ∃b off len,cs=[.slice (some ⟨b,off,none⟩) len 0]/\len*bz<=reachBytes /\
  (0<len->∃c t',h.get b=some (.cells c t') /\ ∀i,i<len->off+i*sz+sz<=c.length/\cY P h e ((c.drop (off+i*sz)).take sz)):=by
 subst hs hb;obtain⟨n,r⟩:=r;cases n with
 |zero=>exact r.elim
 |succ n=>
  simp only[RW,hu]at r;rcases r h0 with r|⟨b,off,len,e1,e2,e3⟩
  ·exact .inl r
  ·refine .inr ⟨b,off,len,e1,e2,λhl=>?_⟩;obtain⟨c,t',g,hc⟩:=e3 hl;exact⟨c,t',g,λi hi=>⟨(hc i hi).1,n,(hc i hi).2⟩⟩
theorem hX{fs:Array Field}(hu:P.underlying t=some (.struct fs))(r:cY P h t cs):cs.length=P.cellsOf t /\ ∀f,f∈fs->cY P h f.type ((cs.drop f.offset).take (P.cellsOf f.type)):=by
 obtain⟨n,r⟩:=r;cases n with
 |zero=>exact r.elim
 |succ n=>
  simp only[RW,hu]at r;exact⟨r.1,λf hf=>⟨n,r.2 f hf⟩⟩
end
theorem Jw{H:Type}{e:TypeId}:∀{l:List (DataW H)} {i:Nat} {d:DataW H},l[i]? = some d->∀n∈d.weights P e,n∈DataW.weightsAll P e l
 |d0::l,0,d,hd,n,hn=>by
  simp only[aay,aab]at hd;subst hd;simp only[DataW.weightsAll,aaG];exact Or.inl hn
 |d0::l,i+1,d,hd,n,hn=>by
  simp only[aaT]at hd;simp only[DataW.weightsAll,aaG];exact Or.inr (Jw hd n hn)
 |[],_,_,hd,_,_=>by simp at hd
section
variable {H:Type}{enc:TypeId×aaa->H}{w:World}{held:Bool}
theorem cR{sp:Nat->Bool}(hsp:∀b,sp b=true):∀(n:Nat) (t:TypeId) (cs:List aaa) (x:DataW H×List MemPlace),DataW.trod enc P w 0 sp held n t cs=some x->(∀m∈x.1.weights P t,m<=reachBytes)->RW P (absH P w) n t (cs.map (UB P w))
 |0,t,cs,x,h,_=>by simp[DataW.trod]at h
 |n+1,t,cs,x,h,hwt=>by
  unfold RW;split
  ·rename_i hu;obtain⟨b,rfl,_⟩:=DataW.trod_bool hu h;exact⟨b,by simp only[abp,List.map_nil,Lf]⟩
  ·rename_i k hu;obtain⟨i,rfl,_,hw⟩:=DataW.trod_int hu h;exact⟨i,by simp only[abp,List.map_nil,Na],hw⟩
  ·rename_i hu;obtain⟨s,rfl,_,hw⟩:=DataW.trod_string hu h;exact⟨s,by simp only[abp,List.map_nil,Dv],hw⟩
  ·rename_i e hu;intro hz;rcases DataW.trod_slice hu h with⟨rfl,_⟩|⟨a,len,cap,elems,rest,m,hm,rfl,hx,_,hl,hmx,hel,hat,hrest,_⟩
   ·exact .inl (by simp only[abp,List.map_nil,Nb])
   ·cases hm
    right
    have hr:=hrest (hsp _)
    have hwt2:∀m∈(elems.length+rest.length)*P.bytesOf e::(DataW.weightsAll P e (elems.map (·.1))++DataW.weightsAll P e (rest.map (·.1))),m<=reachBytes:=by
     intro m hm';apply hwt;rw[hx];simp only[DataW.weights,hu,aau];exact hm'
    have all:∀i,i<cap->∃l y,w.cells? 0 (a.add (i*P.cellsOf e)) (P.cellsOf e)=some l/\DataW.trod enc P w 0 sp held n e l=some y:=by
     intro i hi;by_cases h1:i<len
     ·have:=hat i h1;rw[aaf (by omega)]at this;simp only[Option.bind_eq_some_iff]at this;obtain⟨l,a1,a2⟩:=this;exact⟨l,_,a1,a2⟩
     ·have:=hr.2 (i-len) (by omega);rw[aaf (by omega),show len+(i-len)=i by omega]at this;simp only[Option.bind_eq_some_iff]at this;obtain⟨l,a1,a2⟩:=this;exact⟨l,_,a1,a2⟩
    by_cases hcap:cap=0
    ·have hlen:len=0:=(by omega);subst hcap hlen;exact⟨0,0,0,by simp only[abp,List.map_nil,Nc],by rw[acy];exact aaN _,λq=>absurd q (by decide)⟩
    ·· obtain⟨l0,y0,c0,_⟩:=all 0 (by omega)
       have ha0:a.add (0*P.cellsOf e)=a:=(by rw[acy];unfold Addr.add;simp);rw[ha0]at c0;obtain⟨cc,t',fz,hw,hs,_,_⟩:=DZ c0 hz;have hb:a.block<w.heap.size:=Yj hw;obtain⟨ab,ao,as⟩:=a;simp only at hs hb hw;subst hs;refine⟨ab,ao,len,by simp only[abp,List.map_nil,FF (Nat.pos_of_ne_zero hcap) hl hb],aaV (abx _ (by omega)) (hwt2 _ aao),λ_=>⟨_,t',Nd hw,λi hi=>?_⟩⟩;have hati:=hat i hi;rw[aaf (by omega)]at hati;simp only[Option.bind_eq_some_iff]at hati;obtain⟨l,c1,c2⟩:=hati;have hmy:∀m∈(elems[i]'(by omega)).1.weights P e,m<=reachBytes:=λm hm'=>hwt2 m (aaz _ (aaK _ (Jw (i:=i) (by rw[aaA,aaf (by omega)];rfl) m hm')));obtain⟨cc',t2,fz2,hw2,hs2,hle,rfl⟩:=DZ c1 hz;have hblk:(Addr.add ⟨ab,ao,none⟩ (i*P.cellsOf e)).block=ab:=by unfold Addr.add;split <;> rfl
       have hoff:(Addr.add ⟨ab,ao,none⟩ (i*P.cellsOf e)).off=ao+i*P.cellsOf e:=(by unfold Addr.add;split <;> simp_all);rw[hblk,hw]at hw2;cases hw2;rw[hoff]at hle c2;refine⟨by simpa using hle,?_⟩;have:=cR hsp n e _ _ c2 hmy;rw[List.map_take,List.map_drop]at this;exact this
  ·rename_i fs hu;obtain⟨xs,m,hm,hx,hl,hlen,hf⟩:=DataW.trod_struct hu h;cases hm;refine⟨by simpa using hl,λf hfm=>?_⟩;obtain⟨i,hi,e⟩:=Array.getElem_of_mem hfm;have:=hf i f (by rw[aaI hi,e]);rw[aaf (by omega)]at this
   have hmy:∀m∈(xs[i]'(by omega)).1.weights P f.type,m<=reachBytes:=λm hm'=>hwt m (by
    rw[hx];simp only[DataW.weights,hu];exact DataW.weights_mem_each (j:=i) (by rw[aaA,Array.getElem?_toList,aaI hi,e];rfl) (by rw[aaA,aaf (by omega)];rfl) m hm')
   have:=cR hsp n f.type _ _ this hmy;rw[List.map_take,List.map_drop]at this;exact this
  ·trivial
theorem lM{ts:List TypeId}{t:TypeId}{ds:List (DataW H)}{d:DataW H}(h:∀m∈DataW.weightsEach P (t::ts) (d::ds),m<=reachBytes):(∀m∈d.weights P t,m<=reachBytes) /\ ∀m∈DataW.weightsEach P ts ds,m<=reachBytes:=by
 simp only[DataW.weightsEach,aaG]at h;exact⟨λm hm=>h m (.inl hm),λm hm=>h m (.inr hm)⟩
def RWs(P:Program)(h:za):List TypeId->List aaa->Prop
 |[],[]=>True
 |t::ts,a::as'=>(cY P h t a.cells.toList/\(Eo P t=false->Uj a=true))/\RWs P h ts as'
 |_,_=>False
theorem rw_one{h:za}{t:TypeId}{a:aaa}(hr:Eo P t=false)(r:cY P h t a.cells.toList/\(Eo P t=false->Uj a=true)):cY P h t [a]:=by
 have:=r.1
 rwa [WD (r.2 hr)]at this
theorem args_rw{sp:Nat->Bool}(hsp:∀b,sp b=true){r:Reach}{base:Nat}:∀(ts:List TypeId) (vs:List aaa) (ds:List (DataW H)) (p:List MemPlace),DataW.TrodAll enc P w 0 sp held ts vs ds p ->
  (∀(j:Nat) t v,ts[j]? = some t->vs[j]? = some v->Value.okWide P w r base t v)->(∀m∈DataW.weightsEach P ts ds,m<=reachBytes)->wG (aH P w) (vs.map (A6 P w)) vs/\RWs P (absH P w) ts (vs.map (A6 P w))
 |[],[],[],p,h,hv,_=>⟨.nil _,trivial⟩
 |t::ts,v::vs,d::ds,p,h,hv,hm=>by
  obtain⟨p1,q1,⟨n,h1⟩,h2,_⟩:=h;obtain⟨m1,m2⟩:=lM hm;obtain⟨a1,a2⟩:=args_rw hsp ts vs ds q1 h2 (λj t v hj hv'=>hv (j+1) t v (by simpa using hj) (by simpa using hv')) m2;refine⟨.cons (M9 P w v) a1,⟨⟨n,?_⟩,λhr=>Du (BS (hv 0 t v rfl rfl) hr)⟩,a2⟩;rw[FE];exact cR hsp n t _ _ h1 m1
 |[],_::_,_,p,h,hv,_=>by cases h
 |[],[],_::_,p,h,hv,_=>by cases h
 |_::_,[],_,p,h,hv,_=>by cases h
 |_::_,_::_,[],p,h,hv,_=>by cases h
end
end
noncomputable section
variable {P:Program}
def zQ:aaa->Bool
 | .complex _ _ _=>true
 |_=>false
structure Le (r s:Env):Prop where
 size:r.size=s.size
 get:∀i,zQ (r.get i)=true\/r.get i=s.get i
theorem Le.refl(s:Env):Le s s:=⟨rfl,λ_ => .inr rfl⟩
theorem Le.put{r s r1:Env}{d:Option Nat}{v u:aaa}(h:Le r s)(hp:r.put d v=some r1)(hv:zQ v=true\/v=u):∃s1,s.put d u=some s1/\Le r1 s1:=by
 cases d with
 |none=>simp only[Env.put,aab]at hp;subst hp;exact⟨s,rfl,h⟩
 |some d=>
  simp only[Env.put]at hp ⊢;obtain⟨hc,hp⟩:=zo hp;rw[h.size]at hc;rw[hc];simp only[aab]at hp;subst hp;refine⟨_,rfl,⟨h.size,λi=>?_⟩⟩;rw[Env.yy,Env.yy];by_cases e:i=d
  ·rw[aai e,aai e];exact hv
  ·rw[aag e,aag e];exact h.get i
def ev(s:Env):Operand->aaa
 | .tmp t=>s.get t
 | .const v=>cond (flat v) v bot
 | .global g => .pointer (some ⟨g,0,some 0⟩)
 | .func f => .func (.func f) #[] #[]
theorem lev{r s:Env}(h:Le r s)(x:Operand):zQ (ev r x)=true\/kG s x=some (ev r x):=by
 cases x with
 |tmp t=>rcases h.get t with e|e
         ·exact .inl e
         ·exact .inr (by simp only[kG,ev,e])
 |const v=>cases hf:flat v with
  |true=>exact .inr (by simp only[kG,ev,hf,aav])
  |false=>exact .inl (by simp only[ev,hf,aaB];rfl)
 |global g=>exact .inr rfl
 |func f=>exact .inr rfl
theorem ZI{r s:Env}(h:Le r s){x:Operand}(hb:zQ (ev r x)=false):kG s x=some (ev r x):=by
 rcases lev h x with e|e
 ·rw[e]at hb;cases hb
 ·exact e
def cX(s:Env):List Operand->List aaa
 |[]=>[]
 |x::l=>ev s x::cX s l
def yi:List aaa->Bool
 |[]=>true
 |v::l=>cond (zQ v) false (yi l)
theorem QQ{r s:Env}(h:Le r s):∀{xs:List Operand},yi (cX r xs)=true->Vq s xs=some (cX r xs)
 |[],_=>rfl
 |x::xs,hb=>by
  simp only[cX,yi]at hb;cases hx:zQ (ev r x) with
  |true=>rw[hx]at hb;cases hb
  |false=>
   rw[hx]at hb;simp only[Vq,cX,ZI h hx,QQ h hb]
def PR(s:Env):List (Nat×Operand)->List (Nat×aaa)
 |[]=>[]
 |(i,x)::l=>(i,ev s x)::PR s l
def Pd:List (Nat×aaa)->List aaa
 |[]=>[]
 |(_,v)::l=>v::Pd l
theorem zah{r s:Env}(h:Le r s):∀{ps:List (Nat×Operand)},yi (Pd (PR r ps))=true->W5 s ps=some (PR r ps)
 |[],_=>rfl
 |(i,x)::ps,hb=>by
  simp only[PR,Pd,yi]at hb;cases hx:zQ (ev r x) with
  |true=>rw[hx]at hb;cases hb
  |false=>
   rw[hx]at hb;simp only[W5,PR,ZI h hx,zah h hb]
def S6(s:Env):Option Operand->Option aaa
 |none=>none
 |some x=>some (ev s x)
def sj:Option aaa->Bool
 |none=>true
 |some v => !zQ v
theorem zb1{r s:Env}(h:Le r s){x:Option Operand}(hb:sj (S6 r x)=true):rT s x=some (S6 r x):=by
 cases x with
 |none=>rfl
 |some y=>
  simp only[S6,sj,aan]at hb;simp only[rT,S6,ZI h hb];rfl
def opt{α:Type}(x:Option α)(K:α->Prop):Prop:=match x with
 |some a=>K a
 |none=>False
theorem ER{α:Type}(a:α)(K:α->Prop):opt (some a) K=K a:=rfl
theorem uY{α:Type}{x:Option α}{K:α->Prop}(h:opt x K):∃a,x=some a/\K a:=by
 cases x with
 |none=>exact h.elim
 |some a=>exact⟨a,rfl,h⟩
def zD(x:Option (aaa×za))(K:aaa->za->Prop):Prop:=match x with
 |some (v,h)=>K v h
 |none=>False
theorem AA(v:aaa)(h:za)(K:aaa->za->Prop):zD (some (v,h)) K=K v h:=rfl
theorem jV{x:Option (aaa×za)}{K:aaa->za->Prop}(h:zD x K):∃v g,x=some (v,g)/\K v g:=by
 cases x with
 |none=>exact h.elim
 |some a=>exact⟨a.1,a.2,rfl,h⟩
def nw(h:za)(c:List aaa)(t:TypeId)(K:aaa->za->Prop):Prop:=K (.pointer (some ⟨h.next,0,none⟩)) (h.push (.cells c t))
def nb{α:Type}(l:List aaa)(x:Option α):Option α:=cond (yi l) x none
theorem qa{α:Type}{l:List aaa}{x:Option α}{a:α}(h:nb l x=some a):yi l=true/\x=some a:=zo h
def pk(c a b:aaa):Option aaa:=match c with
 | .bool true=>nb [a] (some a)
 | .bool false=>nb [b] (some b)
 |_=>none
def Ps:aaa->Option aaa
 | .pointer (some a)=>some (.pointer (some a))
 | .func (.func f) a c=>some (.func (.func f) a c)
 |_=>none
def DP(P:Program)(op:UnOp)(a:aaa):Option aaa:=cond (flat a) (fl (yg P (Op.unary op a))) none
def za9(P:Program)(t:TypeId)(a:aaa):Option aaa:=match yg P (Instr.makeInterface t (.bool true)) with
 |some _=>some (.iface t a)
 |none=>none
def Cg(P:Program)(t:TypeId)(x:aaa)(lo hi:Option aaa)(h:za):Option aaa:=match x with
 | .string str=>cond (EO lo&&EO hi) (fl (yg P (Instr.sliceAt t (.string str) lo hi none))) none
 |v=>gD P t v lo hi h
def afv(P:Program)(t:TypeId)(x:aaa)(f:Nat):Option aaa:=match x with
 | .agg cs=>(match yg P (underlying t) with
   |some (.struct fields)=>(match fields[f]? with
    |some fd=>apart P fd.type cs.toList fd.offset
    |none=>none)
   |_=>none)
 |_=>none
def Px(P:Program)(t:TypeId)(a b:aaa):Option aaa:=cond (flat a&&flat b) (fl (yg P (Instr.index t a b))) none
def Kn(x:aaa)(i:Nat):Option aaa:=match x with
 | .tuple vs=>nb (vs.toList) vs[i]?
 |_=>none
def qJ(h:za):Prop:=(∀b o,h.get b=some o->b<h.next)/\h.ro<=h.next
def DC(P:Program)(f:FuncId)(args:List aaa)(h:za)(R:aaa->za->Prop):Prop :=
 qJ h->∃v h1,R v h1/\AF h h1/\TC P f args h (λv' h'=>v'=v/\h'=h1)
def zbq(P:Program)(g:FuncId)(args:List aaa)(h:za)(K:aaa->za->Prop):Prop :=
 yi args=true/\((xS P g=true/\DC P g args h K)\/zD (Bh P g args h) K)
def zc4(P:Program)(L:Nat)(args:List aaa)(h:za)(K:aaa->za->Prop):Prop :=
 yi args=true/\(qJ h->∃v h1,K v h1/\AF h h1/\TY P L args h (λv' h'=>v'=v/\h'=h1))
def zP(P:Program)(f:aaa)(args:List aaa)(h:za)(K:aaa->za->Prop):Prop:=match f with
 | .func (.func g) a c=>yi args=true/\zbq P g (a.toList++args++c.toList) h K
 | .func (.yield L) a c=>a = #[]/\c = #[]/\zc4 P L args h K
 |_=>False
def mv(s:Env)(x:Operand)(h:za)(K:aaa->za->Prop):Prop:=match x with
 | .tmp t=>K (s.get t) h
 | .const v=>cond (flat v) (K v h) False
 | .global g=>K (.pointer (some ⟨g,0,some 0⟩)) h
 | .func f=>K (.func (.func f) #[] #[]) h
def L9(P:Program)(s:Env)(o:Oper)(h:za)(K:aaa->za->Prop):Prop:=match o.op with
 | .move x | .assign x=>mv s x h K
 | .pick c a b=>opt (pk (ev s c) (ev s a) (ev s b)) λv=>K v h
 | .box t x=>opt (nb [ev s x] (some (ev s x).cells.toList)) λc=>nw h c t K
 | .alloc t=>opt (YT P t) λz=>nw h z.cells.toList t K
 | .build t parts=>opt (nb (Pd (PR s parts.toList)) (zM P t (PR s parts.toList))) λv=>K v h
 | .buildSlice t len parts=>zD (nb (Pd (PR s parts.toList)) (ze P t len (PR s parts.toList) h)) K
 | .load t a=>opt (zd P t (ev s a) h) λv=>K v h
 | .store t a x=>opt (nb [ev s x] (ux P t (ev s a) (ev s x) h)) λh'=>K undef h'
 | .nilCheck x=>opt (Ps (ev s x)) λv=>K v h
 | .binOp op t x y _=>opt (nb [ev s x,ev s y] (zK P op t x y (ev s x) (ev s y))) λv=>K v h
 | .unOp op _ x=>opt (DP P op (ev s x)) λv=>K v h
 | .convert src dst x=>zD (nb [ev s x] (xg P src dst (ev s x) h)) K
 | .makeInterface t x=>opt (nb [ev s x] (za9 P t (ev s x))) λv=>K v h
 | .makeFunc (.func f) first captured=>opt (nb (cX s first.toList++cX s captured.toList) (some (Value.func (.func f) (cX s first.toList).toArray (cX s captured.toList).toArray))) λv=>K v h
 | .makeSlice t l c=>zD (YS P t (ev s l) (ev s c) h) K
 | .slice t x lo hi none=>opt (nb [ev s x] (cond (sj (S6 s lo)&&sj (S6 s hi)) (Cg P t (ev s x) (S6 s lo) (S6 s hi) h) none)) λv=>K v h
 | .fieldAddr t x f=>opt (zp P t (ev s x) f) λv=>K v h
 | .field t x f=>opt (afv P t (ev s x) f) λv=>K v h
 | .indexAddr t x i=>opt (xR P t (ev s x) (ev s i)) λv=>K v h
 | .index t x i=>opt (Px P t (ev s x) (ev s i)) λv=>K v h
 | .extract x i=>opt (Kn (ev s x) i) λv=>K v h
 | .call {callee := .builtin b,args,argTypes}=>zD (nb (cX s args.toList) (zG P b argTypes.toList o.type (cX s args.toList) h)) K
 | .makeMap _ none=>K (UE h).1 (UE h).2
 | .lookup t x k ok=>opt (nb [ev s x,ev s k] (lY P t (ev s x) (ev s k) ok h)) λv=>K v h
 | .mapUpdate t m k x=>opt (nb [ev s m,ev s k,ev s x] (Xe P t (ev s m) (ev s k) (ev s x) h)) λh'=>K undef h'
 | .range t x=>zD (nb [ev s x] (gC P t (ev s x) h)) K
 | .next x str=>zD (nb [ev s x] (tP P (ev s x) str h)) K
 | .entry x=>opt (nb [ev s x] (Be (ev s x) h)) λv=>K v h
 |_=>False
theorem Vk{v:aaa}(h:yi [v]=true):zQ v=false:=by
 simp only[yi]at h;cases hb:zQ v with|true=>rw[hb]at h;cases h|false=>rfl
theorem pT{v w:aaa}(h:yi [v,w]=true):zQ v=false/\zQ w=false:=by
 simp only[yi]at h;cases hb:zQ v with|true=>rw[hb]at h;cases h|false=>rw[hb]at h;exact⟨rfl,Vk h⟩
theorem Gy{u v w:aaa}(h:yi [u,v,w]=true):zQ u=false/\zQ v=false/\zQ w=false:=by
 simp only[yi]at h;cases hb:zQ u with|true=>rw[hb]at h;cases h|false=>rw[hb]at h;exact⟨rfl,pT h⟩
theorem L7{l m:List aaa}(h:yi (l++m)=true):yi l=true/\yi m=true:=by
 induction l with
 |nil=>exact⟨rfl,h⟩
 |cons v l ih=>
  simp only[acx,yi]at h ⊢;cases hb:zQ v with
  |true=>rw[hb]at h;cases h
  |false=>rw[hb]at h;exact ih h
theorem Xn{h:za}{x:Option aaa}{v:aaa}(e:x=some v):one h x=some (v,h):=by rw[e];rfl
theorem YE{v:aaa}(h:zQ v=true):∃k a b,v=.complex k a b:=by cases v <;> first|exact⟨_,_,_,rfl⟩|cases h
theorem EB{r s:Env}(hl:Le r s){x:Operand}{h:za}{K:aaa->za->Prop}(hk:mv r x h K):∃v u,kG s x=some u/\(zQ v=true\/v=u)/\K v h:=by
 cases x with
 |tmp t=>exact⟨_,_,rfl,hl.get t,hk⟩
 |const v=>
  simp only[mv]at hk;cases hf:flat v with
  |true=>rw[hf]at hk;exact⟨v,v,by simp only[kG,hf,aav],.inr rfl,hk⟩
  |false=>rw[hf]at hk;exact hk.elim
 |global g=>exact⟨_,_,rfl,.inr rfl,hk⟩
 |func f=>exact⟨_,_,rfl,.inr rfl,hk⟩
theorem qT{r s:Env}(hl:Le r s){o:Oper}{h:za}{K:aaa->za->Prop}(hk:L9 P r o h K) :
  ∃v u h',Um P s o h=some (u,h')/\(zQ v=true\/v=u)/\K v h':=by
 have strict:∀(x:Operand) {α:Type} (F:aaa->Option α) {a:α},(∀k p q,F (.complex k p q)=none)->F (ev r x)=some a->kG s x=some (ev r x):=by
  intro x α F a hF e;refine ZI hl ?_;cases hb:zQ (ev r x) with
  |false=>rfl
  |true=>obtain⟨k,p,q,e2⟩:=YE hb;rw[e2,hF]at e;cases e
 unfold L9 at hk;unfold Um;split at hk <;> rename_i yk <;> simp only[yk]
 ·obtain⟨v,u,e,hv,hk⟩:=EB hl hk;exact⟨v,u,h,by rw[e];rfl,hv,hk⟩
 ·obtain⟨v,u,e,hv,hk⟩:=EB hl hk;exact⟨v,u,h,by rw[e];rfl,hv,hk⟩
 ·rename_i c a b;obtain⟨v,e,hk⟩:=uY hk;have ec:=strict c (λx=>pk x (ev r a) (ev r b)) (λ_ _ _=>rfl) e;rw[ec];unfold pk at e;split at e
  ·rename_i hc;obtain⟨n,e⟩:=qa e;cases e;rw[hc];simp only[ZI hl (Vk n)];exact⟨_,_,h,rfl,.inr rfl,hk⟩
  ·rename_i hc;obtain⟨n,e⟩:=qa e;cases e;rw[hc];simp only[ZI hl (Vk n)];exact⟨_,_,h,rfl,.inr rfl,hk⟩
  ·cases e
 ·obtain⟨c,e,hk⟩:=uY hk;obtain⟨n,e⟩:=qa e;cases e;simp only[ZI hl (Vk n)];exact⟨_,_,_,rfl,.inr rfl,hk⟩
 ·obtain⟨z,e,hk⟩:=uY hk;rw[e];exact⟨_,_,_,rfl,.inr rfl,hk⟩
 ·obtain⟨v,e,hk⟩:=uY hk;obtain⟨n,e⟩:=qa e;simp only[zah hl n];exact⟨_,_,_,Xn e,.inr rfl,hk⟩
 ·obtain⟨v,g,e,hk⟩:=jV hk;obtain⟨n,e⟩:=qa e;simp only[zah hl n];exact⟨_,_,_,e,.inr rfl,hk⟩
 ·obtain⟨v,e,hk⟩:=uY hk;rw[strict _ (λx=>zd P _ x h) (λ_ _ _=>rfl) e];exact⟨_,_,_,Xn e,.inr rfl,hk⟩
 ·obtain⟨v,e,hk⟩:=uY hk;obtain⟨n,e⟩:=qa e;rw[strict _ (λx=>ux P _ x _ h) (λ_ _ _=>rfl) e];simp only[ZI hl (Vk n),e];exact⟨_,_,_,rfl,.inr rfl,hk⟩
 ·obtain⟨v,e,hk⟩:=uY hk;rw[strict _ Ps (λ_ _ _=>rfl) e];unfold Ps at e;split at e
  ·rename_i hc;cases e;rw[hc];exact⟨_,_,_,rfl,.inr rfl,hk⟩
  ·rename_i hc;cases e;rw[hc];exact⟨_,_,_,rfl,.inr rfl,hk⟩
  ·cases e
 ·obtain⟨v,e,hk⟩:=uY hk;obtain⟨n,e⟩:=qa e;simp only[ZI hl (pT n).1,ZI hl (pT n).2];exact⟨_,_,_,Xn e,.inr rfl,hk⟩
 ·obtain⟨v,e,hk⟩:=uY hk;rw[strict _ (DP P _) (λ_ _ _=>rfl) e];obtain⟨hf,e⟩:=zo e;simp only[hf,aav];exact⟨_,_,_,Xn e,.inr rfl,hk⟩
 ·obtain⟨v,g,e,hk⟩:=jV hk;obtain⟨n,e⟩:=qa e;simp only[ZI hl (Vk n)];exact⟨_,_,_,e,.inr rfl,hk⟩
 ·obtain⟨v,e,hk⟩:=uY hk;obtain⟨n,e⟩:=qa e;simp only[ZI hl (Vk n)];unfold za9 at e;split at e
  ·rename_i hm;cases e;rw[hm];exact⟨_,_,_,rfl,.inr rfl,hk⟩
  ·cases e
 ·obtain⟨v,e,hk⟩:=uY hk;obtain⟨n,e⟩:=qa e;cases e;obtain⟨n1,n2⟩:=L7 n;simp only[QQ hl n1,QQ hl n2];exact⟨_,_,_,rfl,.inr rfl,hk⟩
 ·rename_i t l c;obtain⟨v,g,e,hk⟩:=jV hk;have e1:=strict l (λx=>YS P t x (ev r c) h) (λ_ _ _=>rfl) e;have e2:=strict c (λx=>YS P t (ev r l) x h) (λk p q=>by unfold YS;split <;> first|rfl|(rename_i hh _;cases hh)) e;simp only[e1,e2];exact⟨_,_,_,e,.inr rfl,hk⟩
 ·rename_i t x lo hi;obtain⟨v,e,hk⟩:=uY hk;obtain⟨n,e⟩:=qa e;obtain⟨hb,e⟩:=zo e;simp only[aad]at hb;simp only[ZI hl (Vk n),zb1 hl hb.1,zb1 hl hb.2];unfold Cg at e;split at e
  ·rename_i str hs;rw[hs];simp only[Um.flatSlice,e];exact⟨_,_,_,rfl,.inr rfl,hk⟩
  ·rename_i hs;split
   ·rename_i a b c str h1 h2 h3;exact absurd (abn h1) (λq=>hs _ q)
   ·rename_i h1 h2 h3;cases h1;cases h2;cases h3;exact⟨_,_,_,Xn e,.inr rfl,hk⟩
   ·rename_i h1 h2;exact absurd rfl (h2 _ _ _ rfl rfl)
 ·rename_i t x f;obtain⟨v,e,hk⟩:=uY hk;rw[strict x (λx=>zp P t x f) (λ_ _ _=>rfl) e];exact⟨_,_,_,Xn e,.inr rfl,hk⟩
 ·rename_i t x f;obtain⟨v,e,hk⟩:=uY hk;rw[strict x (λx=>afv P t x f) (λ_ _ _=>rfl) e];unfold afv at e;split at e
  ·rename_i cs hc;rw[hc];split at e
   ·rename_i fields hu;simp only[hu];split at e
    ·rename_i fd hfd;simp only[hfd];exact⟨_,_,_,Xn e,.inr rfl,hk⟩
    ·cases e
   ·cases e
  ·cases e
 ·rename_i t x i;obtain⟨v,e,hk⟩:=uY hk;have e1:=strict x (λx=>xR P t x (ev r i)) (λk p q=>by unfold xR;split <;> (try rfl);split <;> first|rfl|(rename_i hh;cases hh)) e;have e2:=strict i (λy=>xR P t (ev r x) y) (λk p q=>rfl) e;simp only[e1,e2];exact⟨_,_,_,Xn e,.inr rfl,hk⟩
 ·rename_i t x i;obtain⟨v,e,hk⟩:=uY hk;have e1:=strict x (λx=>Px P t x (ev r i)) (λk p q=>rfl) e;have e2:=strict i (λy=>Px P t (ev r x) y) (λk p q=>by unfold Px;cases flat (ev r x) <;> rfl) e;obtain⟨hf,e⟩:=zo e;simp only[e1,e2,hf,aav];exact⟨_,_,_,Xn e,.inr rfl,hk⟩
 ·rename_i x i;obtain⟨v,e,hk⟩:=uY hk;rw[strict x (λx=>Kn x i) (λ_ _ _=>rfl) e];unfold Kn at e;split at e
  ·rename_i vs hc;rw[hc];obtain⟨n,e⟩:=qa e;exact⟨_,_,_,Xn e,.inr rfl,hk⟩
  ·cases e
 ·obtain⟨v,g,e,hk⟩:=jV hk;obtain⟨n,e⟩:=qa e;simp only[QQ hl n];exact⟨_,_,_,e,.inr rfl,hk⟩
 ·exact⟨_,_,_,rfl,.inr rfl,hk⟩
 ·obtain⟨v,e,hk⟩:=uY hk;obtain⟨n,e⟩:=qa e;simp only[ZI hl (pT n).1,ZI hl (pT n).2];exact⟨_,_,_,Xn e,.inr rfl,hk⟩
 ·obtain⟨v,e,hk⟩:=uY hk;obtain⟨n,e⟩:=qa e;simp only[ZI hl (Gy n).1,ZI hl (Gy n).2.1,ZI hl (Gy n).2.2,e];exact⟨_,_,_,rfl,.inr rfl,hk⟩
 ·obtain⟨v,g,e,hk⟩:=jV hk;obtain⟨n,e⟩:=qa e;simp only[ZI hl (Vk n)];exact⟨_,_,_,e,.inr rfl,hk⟩
 ·obtain⟨v,g,e,hk⟩:=jV hk;obtain⟨n,e⟩:=qa e;simp only[ZI hl (Vk n)];exact⟨_,_,_,e,.inr rfl,hk⟩
 ·obtain⟨v,e,hk⟩:=uY hk;obtain⟨n,e⟩:=qa e;simp only[ZI hl (Vk n)];exact⟨_,_,_,Xn e,.inr rfl,hk⟩
 ·exact hk.elim
end
end Go.Ai
