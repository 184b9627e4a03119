import Derived.Test.YtpjjmindjodknaaGreatTB
import Derived.ChangeSame
import Derived.Carry
import Derived.ProofKit
import Derived.ChangeStays
import Derived.ChangeArms
import Derived.SizedLaws
set_option linter.unusedVariables false
set_option linter.unusedSimpArgs false
set_option maxRecDepth 100000
namespace Go.Ai
noncomputable section
variable {P:Program}
def ZP:List Tmp->List aaa->Env->Option Env
 |[],[],s=>some s
 |t::ts,v::vs,s=>(match s.put (some t) v with
  |some s1=>ZP ts vs s1
  |none=>none)
 |_,_,_=>none
theorem JF{ρ:xA}:∀{ts:List Tmp} {vs vs':List aaa} {s s':Env} {tm:Array aaa},ZP ts vs s=some s'->vL ρ s tm->wI ρ vs vs' ->
  ts.length=vs'.length/\vL ρ s' ((ts.zip vs').foldl (λtm x=>tm.setIfInBounds x.1 x.2) tm)
 |[],[],vs',s,s',tm,he,hs,hv=>by
  cases hv.uI;simp only[ZP,aab]at he;subst he;exact⟨rfl,hs⟩
 |t::ts,v::vs,vs',s,s',tm,he,hs,hv=>by
  obtain⟨y,ys,rfl,h1,h2⟩:=hv.cons_inv;simp only[ZP]at he;split at he
  ·rename_i s1 hp;have:=JF he (hs.put h1 hp) h2;exact⟨by simp[this.1],by simpa [qj] using this.2⟩
  ·cases he
 |[],_::_,_,_,_,_,he,_,_=>by simp[ZP]at he
 |_::_,[],_,_,_,_,he,_,_=>by simp[ZP]at he
def UG(l:VQ)(tm:Array aaa)(d:Nat)(fn:FuncId):Loop:={state:=l.state,pending:=l.pending,fn:=fn,tmps:=tm,params:=l.params,assign:=l.assign,body:=l.body,defers:=d}
theorem Rel.loop{ρ:xA}{h:za}{w:World}(hr:Rel P ρ h w){b:Nat}{A:VQ}{pl:Place}(hg:h.get b=some (.loop A))(hm:ρ.m b=some pl) :
  ∃tm d fn,w.heap[pl.c]? = some (.loop (UG A tm d fn))/\vL ρ A.s tm:=hr.PA hg hm
theorem ET(w:World)(l k:Nat)(o:Obj)(hk:k≠l):(w.heap.setIfInBounds l o)[k]? = w.heap[k]?:=by rw[aa5,aae (Ne.symm hk)]
theorem ER(w:World)(l:Nat)(o:Obj)(hl:l<w.heap.size):(w.heap.setIfInBounds l o)[l]? = some o:=by rw[aa5,aah rfl,aah hl]
theorem Step.zbE{ρ:xA}{h:za}{w:World}(hr:Rel P ρ h w){b:Nat}{A A':VQ}{pl:Place}(hg:h.get b=some (.loop A))(hm:ρ.m b=some pl)(hro:h.ro<=b){tm:Array aaa}{d fn:Nat}
  (ho:w.heap[pl.c]? = some (.loop (UG A tm d fn))) (hs:vL ρ A'.s tm) :
  Step P ρ h w ρ (h.set b (some (.loop A'))) {w with heap:=w.heap.setIfInBounds pl.c (.loop (UG A' tm d fn))} :=
 Step.Hc hr hg hm hro (ob' := .loop A') ⟨tm,d,fn,ER w pl.c _ (YX ho),hs⟩ rfl rfl rfl (by simp) (λk hk=>ET w pl.c k _ hk)
theorem Wp{w:World}{l:Nat}{r:Loop}(h:w.heap[l]? = some (.loop r)):(Instr.getLoop l).run P w=.ok r w:=by
 simp only[Instr.getLoop,getObj,aai];simp only[Sem.run,h,aad];rfl
theorem JG{w:World}{l:Nat}{r:Loop}(h:w.heap[l]? = some (.loop r))(o:Obj):(setObj l o).run P w=.ok () {w with heap:=w.heap.setIfInBounds l o}:=by
 simp only[setObj,Sem.run,h]
theorem MW{w:World}{l:Nat}{r:Loop}{args:Array aaa}(h:w.heap[l]? = some (.loop r))(hn:args.size=r.params.size) :
  (Instr.yield l args).run P w=.ok (.round l r.fn ((r.params.toList.zip args.toList).foldl (λtm x=>tm.setIfInBounds x.1 x.2) r.tmps) r.assign r.body) w:=by
 simp only[Instr.yield,aai,Wp h,aad];rw[aae (by simp[hn])];simp only[aan];rw[<- Array.foldl_toList,Array.toList_zip]
theorem rL{w:World}{l:Nat}{r:Loop}(h:w.heap[l]? = some (.loop r))(hr:r.state=.ready) :
  (Instr.beginRound l).run P w=.ok () {w with heap:=w.heap.setIfInBounds l (.loop {r with state := .busy})}:=by
 simp only[Instr.beginRound,aai,Wp h,aad,JG h,hr,aan]
theorem Kk{w:World}{l:Nat}{r:Loop}(h:w.heap[l]? = some (.loop r))(jump:Option Code) :
  (Instr.endRound l jump).run P w=.ok (.bool jump.isNone) {w with heap:=w.heap.setIfInBounds l (.loop {r with state:=if jump.isNone then .ready else .done,pending:=jump})}:=by
 simp only[Instr.endRound,aai,Wp h,aad,JG h,aan]
theorem FA{w:World}{l:Nat}{r:Loop}(h:w.heap[l]? = some (.loop r))(hb:(r.state == .busy)=false) :
  (Instr.endLoop l).run P w=.ok r.pending {w with heap:=w.heap.setIfInBounds l (.loop {r with state := .exhausted})}:=by
 simp only[Instr.endLoop,aai,Wp h,aad,hb,abh,ab1,JG h,aan]
section moves
variable {b:Frame}{tm:Array aaa}{ds:List Deferred}{k:List Item}{cs:List Frame}{w w':World}
theorem hZ{l:Nat}(hb:b.roundOf=some l)(hrun:(Instr.beginRound l).run P w=.ok () w'):step P (lone (vD b tm ds (.beginRound::k)) cs w)=.next (lone (vD b tm ds k) cs w') :=
 step_lone_go (by
  simp only[stepG,vD,stepG.exec,hb,stepG.apply];simp[hrun,Frame.finish])
def XF:Ex->Option Code
 | .normal=>none
 | .ret=>some .ret
 | .exit id=>some (.exit id)
theorem Jp{l:Nat}{fr:Frame}(hb:b.roundOf=some l)(hk:b.kind=.normal){e:Ex}(todo:List Item)
  (htodo:match e with | .normal=>todo=[] | .ret=>∃t,todo=.code .ret::t | .exit id=>∃t,todo=.code (.exit id)::t/\exitTo id t=none) {v:aaa}
  (hrun:(Instr.endRound l (XF e)).run P w=.ok v w') :
  step P (lone (vD b tm ds todo) (fr::cs) w)=.next (lone (fr.finish v) cs w') :=
 step_lone_go (by
  cases e with
  |normal=>subst htodo;simp only[XF]at hrun;simp[stepG,vD,stepG.exec,hb,hrun,doReturn,hk]
  |ret=>obtain⟨t,rfl⟩:=htodo;simp only[XF]at hrun;simp[stepG,vD,stepG.exec,hb,hrun,doReturn,hk]
  |exit id=>obtain⟨t,rfl,ht⟩:=htodo;simp only[XF]at hrun;simp[stepG,vD,stepG.exec,hb,ht,hrun,doReturn,hk])
theorem pF{ops:Array Oper}{i:Nat}{rest:List Nat}{o:Oper}(ho:ops[i]? = some o)(hw:Region.wanted o (yielded ops tm)=true)(hd:XS o.op=false){l:Nat}{f:FuncId}{tm':Array aaa}{as bd:Code}{w':World}
  (hr:(execOp (Act.eval ⟨tm,ds⟩) o).run P w=.ok (.round l f tm' as bd) w') :
  step P (lone (vD b tm ds (.inRegion ops (i::rest)::k)) cs w)=.next (lone (Frame.round l f tm' as bd .normal) (vD b tm ds (.inRegion ops (i::rest)::k)::cs) w') :=
 step_lone_go (by rw[aK ho hw hd];simp[stepG.apply,hr,vD])
theorem cO{l:Nat}{jump:Option Code}(hrun:(Instr.endLoop l).run P w=.ok jump w') :
  step P (lone (vD b tm ds (.endRangeFunc l::k)) cs w)=.next (lone (vD b tm ds ((jump.map Item.code).toList++k)) cs w') :=
 step_lone_go (by simp[stepG,vD,stepG.exec,hrun])
theorem lL{f:Operand}{params:Array Tmp}{as bd:Code}{l:Nat}{mark:List Deferred}{w1 w2:World}{g:FuncId}{args:Array aaa}
  (hrun:(Instr.enterLoop b.fn tm params as bd b.roundOf).run P w=.ok (l,mark) w1)
  (hcall:(do let d <- resolve (Act.eval ⟨tm,ds⟩) {callee := .value f,args := #[.const (.func (.yield l) #[] #[])],argTypes := #[]} 0;invoke d.target d.args:Sem Next).run P w1=.ok (.enter g args) w2) :
  step P (lone (vD b tm ds (.code (.rangeFunc f params as bd)::k)) cs w)=.next (lone (Frame.enter P g args .normal) (vD b tm (mark++ds) (.inRangeFunc l::k)::cs) w2) :=
 step_lone_go (by
  have he:=py b tm (mark++ds) (.inRangeFunc l::k);have he':(Act.eval ⟨tm,mark++ds⟩)=(Act.eval ⟨tm,ds⟩):=by funext x;cases x <;> rfl
  rw[he']at he;simp only[vD]at he;simp only[stepG,vD,stepG.exec];simp only[Sem.runT_eq,hrun,GStep.bare_after];simp only[stepG.apply,he,Sem.runT_eq,hcall];simp[GStep.bare,GStep.after])
end moves
def TY(P:Program)(L:Nat)(args:List aaa)(h:za)(R:aaa->za->Prop):Prop :=
 ∀(ρ:xA) (w:World) (cargs:List aaa) (pl:Place),Rel P ρ h w->wI ρ args cargs->L<ρ.next->ρ.m L=some pl ->
  ∃f tm as bd,(Instr.yield pl.c cargs.toArray).run P w=.ok (.round pl.c f tm as bd) w /\
   ∀(fr:Frame) (cs:List Frame),∃v v' h' ρ' w',R v h'/\Step P ρ h w ρ' h' w'/\zG ρ' v v'/\Steps P (lone (Frame.round pl.c f tm as bd .normal) (fr::cs) w) (lone (fr.finish v') cs w')
def VQ.left(A:VQ)(e:Ex):VQ:={A with state:=if (XF e).isNone then .ready else .done,pending:=XF e}
theorem Hw{L:Nat}{A:VQ}{args:List aaa}{h:za}{s0:Env}{R:aaa->za->Prop}(hg:h.get L=some (.loop A))(he:ZP A.params.toList args A.s=some s0)
  (ht:T P (some L) A.assign s0 h (λe s1 h1=>e=.normal /\ ∃A1,h1.get L=some (.loop A1)/\A1.state=.ready/\h1.ro<=L /\
   T P (some L) A.body s1 (h1.set L (some (.loop {A1 with state := .busy}))) (λe s2 h2=>∃A2,h2.get L=some (.loop A2)/\h2.ro<=L /\
     R (.bool (XF e).isNone) (h2.set L (some (.loop (A2.left e))))))):TY P L args h R:=by
 intro ρ w cargs pl hr hv hL hm;obtain⟨tm,d,fn,ho,hs⟩:=hr.loop hg hm;obtain⟨hlen,hs0⟩:=JF he hs hv;refine⟨fn,_,A.assign,A.body,MW ho (by simpa [UG] using hlen.symm),λfr cs=>?_⟩
 let b:Frame:={ (default:Frame) with fn:=fn,kind := .normal,roundOf:=some pl.c}
 have hrd:Rd ρ (some L) b:=⟨hL,pl,hm,rfl⟩;obtain⟨e,s1,h1,ρ1,w1,tm1,ds1,⟨rfl,A1,g1,a1,ro1,q⟩,st1,hs1,_,ha⟩:=ht ρ w _ [] hr hs0 b hrd [.beginRound,.code A.body] (fr::cs);have hm1:ρ1.m L=some pl:=(st1.le.2 L hL).trans hm;obtain⟨tmA,dA,fnA,hoA,hsA⟩:=st1.rel.loop g1 hm1;have sb:=Step.zbE st1.rel g1 hm1 ro1 (A':={A1 with state := .busy}) hoA hsA;obtain⟨e,s2,h2,ρ2,w2,tm2,ds2,⟨A2,g2,ro2,hR⟩,st2,hs2,_,ha2⟩:=q ρ1 _ tm1 ds1 sb.rel hs1 b (hrd.mono st1.le) [] (fr::cs);have hm2:ρ2.m L=some pl:=(st2.le.2 L (aap hL st1.le.1)).trans hm1;obtain⟨tmB,dB,sG,hoB,hsB⟩:=st2.rel.loop g2 hm2;have se:=Step.zbE st2.rel g2 hm2 ro2 (A':=A2.left e) hoB hsB;refine⟨_,.bool (XF e).isNone,_,ρ2,_,hR,((st1.trans sb).trans st2).trans se,.bool _,?_⟩;refine abX ha (.head (hZ rfl (rL hoA a1)) ?_);cases e with
 |normal=>exact abX ha2 (.one (Jp (e := .normal) rfl rfl [] rfl (Kk hoB _)))
 |ret=>obtain⟨t,sx⟩:=ha2;exact sx.trans (.one (Jp (e := .ret) rfl rfl _ ⟨t,rfl⟩ (Kk hoB _)))
 |exit id=>obtain⟨t,et,sx⟩:=ha2;exact sx.trans (.one (Jp (e := .exit id) rfl rfl _ ⟨t,rfl,et.trans rfl⟩ (Kk hoB _)))
theorem CM{s:Env}{h:za}{Q:Env->za->Prop}{ops:Array Oper}{i:Nat}{rest:List Nat}{o:Oper}{f:Operand}{cargs:Array Operand}{ts:Array TypeId}{L:Nat}{vs:List aaa}{R:aaa->za->Prop}
  (ho:ops[i]? = some o) (hw:yw ops s o=true) (yj:o.op=.call {callee := .value f,args:=cargs,argTypes:=ts}) (hf:kT s f=some (.func (.yield L) #[] #[])) (hargs:VO s cargs.toList=some vs)
  (hc:TY P L vs h R) (ht:∀v h1,R v h1->∃s1,s.put o.dst v=some s1/\TO P ops rest s1 h1 Q):TO P ops (i::rest) s h Q:=by
 intro ρ w tm ds hr hs b k cs;have hw':Region.wanted o (yielded ops tm)=true:=(XC hs ops o).trans hw;have e1:=zW (a:=⟨tm,ds⟩) hs hf;have e2:=jU (a:=⟨tm,ds⟩) hs hargs;generalize hfv:Act.eval ⟨tm,ds⟩ f=fv at e1;cases e1 with
 |yield hb hm=>
  rename_i pl;obtain⟨fn,tmr,as,bd,hy,hgo⟩:=hc ρ w _ pl hr e2 hb hm
  have hrun:(execOp (Act.eval ⟨tm,ds⟩) o).run P w=.ok (.round pl.c fn tmr as bd) w:=by
   have hargs':(#[]:Array aaa)++cargs.map (Act.eval ⟨tm,ds⟩)=(cargs.toList.map (Act.eval ⟨tm,ds⟩)).toArray:=by apply ab3;simp
   simp only[execOp,yj,resolve,hfv,Deferred.ofValue,aai,aan,aad,invoke,hargs',hy]
  obtain⟨v,v',h',ρ',w1,hR,st,hv,hgo⟩:=hgo (vD b tm ds (.inRegion ops (i::rest)::k)) cs;obtain⟨s1,hp,hrest⟩:=ht v h' hR;have hs1:vL ρ' s1 (qj tm o.dst v'):=(hs.mono st.le).put hv hp;obtain⟨s2,h2,ρ2,w2,tm2,q,st2,hs2,sx⟩:=hrest ρ' w1 _ ds st.rel hs1 b k cs;have hd:XS o.op=false:=by rw[yj];rfl
  refine⟨s2,h2,ρ2,w2,tm2,q,st.trans st2,hs2,.head (pF ho hw' hd hrun) (abX hgo ?_)⟩;rw[jX,ho];exact sx
theorem Step.more{ρ:xA}{h:za}{w w':World}(hr:Rel P ρ h w){o:Obj}(hw:w' = {w with heap:=w.heap.push o}):Step P ρ h w ρ h w':=by
 subst hw;have hold:∀k,k<w.heap.size->(w.heap.push o)[k]? = w.heap[k]?:=λk hk=>by rw[Array.getElem?_push,aae (by omega)]
 exact⟨xA.le_refl _,hr.grow hold,rfl,rfl,rfl,rfl,by simp,λk hk _=>hold k hk,λ_ _ h=>h⟩
theorem run_newObj(w:World)(o:Obj):(newObj o).run P w=.ok w.heap.size {w with heap:=w.heap.push o}:=rfl
theorem iF{rd:Option Nat}{f:Operand}{params:Array Tmp}{as bd:Code}{s:Env}{h:za}{g:FuncId}{fa fc:Array aaa}{Q:Ex->Env->za->Prop}
  (hf:kT s f=some (.func (.func g) fa fc)) (hcall:xW P g=true) (hrd:∀L,rd=some L->∃A,h.get L=some (.loop A))
  (hc:TC P g (fa.toList++[.func (.yield h.next) #[] #[]]++fc.toList) (h.push (.loop {state := .ready,pending:=none,s:=s,params:=params,assign:=as,body:=bd}))
   (λ_ h1=>∃A,h1.get h.next=some (.loop A)/\(A.state == .busy)=false/\h1.ro<=h.next /\ ∃e,XF e=A.pending/\Q e s (h1.set h.next none))):T P rd (.rangeFunc f params as bd) s h Q:=by
 intro ρ w tm ds hr hs b hb k cs
 let A0:VQ:={state := .ready,pending:=none,s:=s,params:=params,assign:=as,body:=bd}
 obtain⟨mark,d,w1,hrun,st1,hd1⟩:∃mark d w1,(Instr.enterLoop b.fn tm params as bd b.roundOf).run P w=.ok (w1.heap.size,mark) {w1 with heap:=w1.heap.push (.loop (UG A0 tm d b.fn))} /\ Step P ρ h w ρ h w1/\KK w ds w1 (mark++ds):=by
  cases rd with
  |none=>
   have hb:b.roundOf=none:=hb;refine⟨[E4 w.heap.size],w.heap.size,{w with heap:=w.heap.push (.deferred (some []))},?_,Step.more hr rfl,[w.heap.size],rfl,by simp,λr hr'=>?_⟩
   ·simp only[Instr.enterLoop,hb,aai,run_newObj,aad,aan];rfl
   ·simp only[aat]at hr';subst hr';exact⟨aaj _,by simp⟩
  |some L0=>
   obtain⟨hL,pl,hm,hb⟩:=hb;obtain⟨A,gA⟩:=hrd L0 rfl;obtain⟨tmA,dA,fnA,hoA,_⟩:=hr.loop gA hm;refine⟨[],dA,w,?_,.refl hr,.refl _ _ _⟩;simp only[Instr.enterLoop,hb,aai,Wp hoA,run_newObj,aad,aan];rfl
 let pl:Place:=⟨w1.heap.size,0,0,0⟩
 have stp:Step P ρ h w1 (ρ.ext pl) (h.push (.loop A0)) {w1 with heap:=w1.heap.push (.loop (UG A0 tm d b.fn))} :=
  Step.aF st1.rel (ob := .loop A0) (pl:=pl) rfl rfl ⟨tm,d,b.fn,by simp[pl,UG],hs.mono (ρ.ij pl)⟩ rfl rfl rfl
 have hnew:(ρ.ext pl).m h.next=some pl:=by rw[<- hr.next];exact ρ.kq pl
 have hlt:h.next<(ρ.ext pl).next:=by show h.next<ρ.next+1;rw[hr.next];omega
 have e1:=zW (a:=⟨tm,ds⟩) (hs.mono (ρ.ij pl)) hf;generalize hfv:Act.eval ⟨tm,ds⟩ f=fv at e1;cases e1 with
 |func ha hcs k1 k2=>
  rename_i fa' fc'
  let yl:aaa := .func (.yield w1.heap.size) #[] #[]
  let full:=fa'.toList++[yl]++fc'.toList
  have hyl:zG (ρ.ext pl) (.func (.yield h.next) #[] #[]) yl := .yield (pl:=pl) hlt hnew
  have hfull:wI (ρ.ext pl) (fa.toList++[.func (.yield h.next) #[] #[]]++fc.toList) full :=
   (wI.append ⟨by simpa using ha,λi x y hx hy=>k1 i x y (by simpa using hx) (by simpa using hy)⟩ (.cons hyl (.nil _))).append ⟨by simpa using hcs,λi x y hx hy=>k2 i x y (by simpa using hx) (by simpa using hy)⟩
  have hrun2:(do let d <- resolve (Act.eval ⟨tm,ds⟩) {callee := .value f,args := #[.const yl],argTypes := #[]} 0;invoke d.target d.args:Sem Next).run P {w1 with heap:=w1.heap.push (.loop (UG A0 tm d b.fn))} = .ok (.enter g full.toArray) {w1 with heap:=w1.heap.push (.loop (UG A0 tm d b.fn))}:=by
   have hargs':fa'++(#[.const yl]:Array Operand).map (Act.eval ⟨tm,ds⟩)++fc'=full.toArray:=by apply ab3;simp[full];rfl
   simp only[resolve,hfv,Deferred.ofValue,aai,aan,aad,invoke,callFunc,run_program,hargs'];unfold xW at hcall;cases hfn:P.funcs[g]? with
   |none=>rw[hfn]at hcall;cases hcall
   |some fn=>
    rw[hfn]at hcall;simp only[aac,aao]at hcall;simp only[hcall.2,abh,ab1];rw[aae (by cases hb:fn.body <;> simp_all)];rfl
  obtain⟨e,w3,fr,⟨v,v',h',ρ',rfl,⟨A,gA,nb,roA,ex,hj,q⟩,st,hv⟩,hcomes,_,hleave⟩:=hc (ρ.ext pl) _ full stp.rel hfull (vD b tm (mark++ds) (.inRangeFunc w1.heap.size::k)::cs);have hm':ρ'.m h.next=some pl:=(st.le.2 _ hlt).trans hnew;obtain⟨tmA,dA,fnA,hoA,hsA⟩:=st.rel.loop gA hm';have stt:=Step.zbE st.rel gA hm' roA (A':={A with state := .exhausted}) hoA hsA;have std:=Step.G6 stt.rel h.next;have sta:=(((stp.trans st).trans stt).trans std).same (h'':=h'.set h.next none) ⟨rfl,rfl,λx=>by rw[za.set_set]⟩;refine⟨ex,s,h'.set h.next none,ρ',_,tm,mark++ds,q,st1.trans sta,hs.mono (st1.trans sta).le,hd1.trans (.refl _ _ _) st1.size st1.rel sta,?_⟩
  have harr:Steps P (lone (vD b tm ds (.code (.rangeFunc f params as bd)::k)) cs w) (lone (vD b tm (mark++ds) ((A.pending.map Item.code).toList++k)) cs {w3 with heap:=w3.heap.setIfInBounds pl.c (.loop (UG {A with state := .exhausted} tmA dA fnA))}) :=
   .head (lL hrun hrun2) (abX hcomes (.head (step_leave_returned hleave) (.one (cO (FA hoA nb)))))
  have hp:(A.pending.map Item.code).toList=((XF ex).map Item.code).toList:=by rw[hj]
  rw[hp]at harr;cases ex with
  |normal=>exact harr
  |ret=>exact⟨k,harr⟩
  |exit id=>exact⟨k,rfl,harr⟩
end
noncomputable section
inductive Task where
 |code (rd:Option Nat) (c:Code) (s:Env)
 |call (f:FuncId) (args:List aaa)
inductive Out where
 |ex (e:Ex) (s:Env)
 |val (v:aaa)
abbrev Xo:=Task->za->Option (Out×za)
def vE(h h2:za):za := @za.rec (λ_=>za) (λt n r=>@za.rec (λ_=>za) (λt2 n2 _=>⟨(List.range' n (n2-n)).foldl (λt b=>t.set b (t2.get b)) t,n2,r⟩) h2) h
def Em(cls:List Nat)(rec:Xo)(g:FuncId)(args:List aaa)(h:za):Option (aaa×za) :=
 match cls.getD g 0 with
 |1=>(match rec (.call g args) h with
  |some (.val v,h')=>some (v,h')
  |_=>none)
 |2=>(match rec (.call g args) h.lock with
  |some (.val v,_)=>cond (iz v) (some (v,h)) none
  |_=>none)
 |3=>(match rec (.call g args) h.lock with
  |some (.val v,h2)=>some (v,vE h h2)
  |_=>none)
 |_=>none
def zaT:Ex->Bool
 | .normal=>true
 |_=>false
def isReady:LoopState->Bool
 | .ready=>true
 |_=>false
def SI:LoopState->Bool
 | .busy=>false
 |_=>true
def rK(rec:Xo)(L:Nat)(args:List aaa)(h:za):Option (aaa×za) :=
 match h.get L with
 |some (.loop A)=>(match ZP A.params.toList args A.s with
  |some s0=>(match rec (.code (some L) A.assign s0) h with
   |some (.ex .normal s1,h1)=>(match h1.get L with
    |some (.loop A1)=>cond (isReady A1.state&&Nat.ble h1.ro L)
      (match rec (.code (some L) A.body s1) (h1.set L (some (.loop {A1 with state := .busy}))) with
       |some (.ex e _,h2)=>(match h2.get L with
        |some (.loop A2)=>cond (Nat.ble h2.ro L) (some (.bool (zaT e),h2.set L (some (.loop (A2.left e))))) none
        |_=>none)
       |_=>none) none
    |_=>none)
   |_=>none)
  |none=>none)
 |_=>none
def zaL:Option Code->Option Ex
 |none=>some .normal
 |some .ret=>some .ret
 |some (.exit id)=>some (.exit id)
 |_=>none
def rH(cls:List Nat)(rec:Xo)(rd:Option Nat)(f:Option aaa)(params:Array Tmp)(as bd:Code)(s:Env)(h:za):Option (Ex×za) :=
 match f with
 |some (.func (.func g) fa fc)=>cond (Nat.beq (cls.getD g 0) 1&&(match rd with
   |none=>true
   |some L0=>(match h.get L0 with
    |some (.loop _)=>true
    |_=>false)))
   (match rec (.call g (fa.toList++[.func (.yield h.next) #[] #[]]++fc.toList)) (h.push (.loop {state := .ready,pending:=none,s:=s,params:=params,assign:=as,body:=bd})) with
    |some (.val _,h1)=>(match h1.get h.next with
     |some (.loop A)=>cond (SI A.state&&Nat.ble h1.ro h.next)
       (match zaL A.pending with
        |some e=>some (e,h1.set h.next none)
        |none=>none) none
     |_=>none)
    |_=>none) none
 |_=>none
def evalOp(P:Program)(cls:List Nat)(rec:Xo)(s:Env)(o:Oper)(h:za):Option (aaa×za) :=
 match o.op with
 | .call {callee := .value f,args,argTypes}=>(match kT s f,VO s args.toList with
   |some (.func (.func g) fa fc),some vs=>cond (Nat.beq (cls.getD g 0) 0) (BB P g (fa.toList++vs++fc.toList) h) (Em cls rec g (fa.toList++vs++fc.toList) h)
   |some (.func (.yield L) fa fc),some vs=>cond (Nat.beq fa.size 0&&Nat.beq fc.size 0) (rK rec L vs h) none
   |_,_=>none)
 |_=>UM P s o h
def Ki(P:Program)(cls:List Nat)(rec:Xo)(ops:Array Oper):List Oper->Env->za->Option (Env×za)
 |[],s,h=>some (s,h)
 |o::os,s,h=>
  cond (yw ops s o)
   (match evalOp P cls rec s o h with
    |some (v,h1)=>(match s.put o.dst v with
     |some s1=>Ki P cls rec ops os s1 h1
     |none=>none)
    |none=>none)
   (match s.put o.dst undef with
    |some s1=>Ki P cls rec ops os s1 h
    |none=>none)
structure lH where
 r:yz
 FL:List Nat
 all:Bool
 bH:Bool
 rdl:List Nat
 ex:Bool
def yC(ms:List Nat)(o:Oper):Nat:=o.after.toList.foldl (λm e=>cond (Region.binds .any e) (m ||| (1 <<< e.on) ||| ms.getD e.on 0) m) 0
def ji(ops:Array Oper)(x y:Oper):Bool :=
 (match x.dst with
  |none=>true
  |some d => !(y.looksAt ops).contains d && !(decide (y.dst=some d))) &&
 (match y.dst with
  |none=>true
  |some d => !(x.looksAt ops).contains d)
def pK(x y:lH):Bool :=
 cond x.all (y.bH||(y.ex && !y.all&&y.rdl.all (λb => !x.r.tc b)&&y.FL.all (λb => !x.r.tc b))) (x.FL.all λb => !y.r.rd b && !y.r.tc b) &&
 cond y.all (x.bH||(x.ex&&x.rdl.all λb => !y.r.tc b)) (y.FL.all λb => !x.r.rd b)
def ZQ(ops:Array Oper):List Oper->Nat->List Nat->List (Nat×Oper)->Bool
 |[],_,_,_=>true
 |o::os,i,ms,prev=>
  (o.after.toList.all λe => !(Region.binds .any e)||Nat.blt e.on i)&&(prev.all λx=>(yC ms o).testBit x.1||ji ops x.2 o)&&ZQ ops os (i+1) (ms++[yC ms o]) ((i,o)::prev)
def T5:aaa->List Nat
 | .pointer (some a)=>[a.block]
 | .slice (some a) _ _=>[a.block]
 | .map (some b)=>[b]
 |_=>[]
def AO:Op->Bool
 | .call {callee := .builtin .cap,.. } | .call {callee := .builtin .min,.. } | .call {callee := .builtin .max,.. } | .call {callee := .builtin .unsafeSliceData,.. }=>false
 | .move _ | .assign _ | .pick _ _ _ | .alloc _ | .box _ _ | .build _ _ | .nilCheck _ | .binOp _ _ _ _ _ | .unOp _ _ _ | .makeInterface _ _ | .makeFunc _ _ _ | .fieldAddr _ _ _ | .field _ _ _ | .indexAddr _ _ _ | .index _ _ _ | .extract _ _=>false
 |_=>true
def Gq(h:za)(b:Nat):List Nat :=
 match h.get b with
 |some (.iter (some m) _ _ _)=>[b,m]
 |_=>[b]
def PC(s:Env)(o:Oper)(h:za):List Nat:=cond (AO o.op) ((o.op.operands.toList.flatMap λx=>(match kT s x with|some v=>T5 v|none=>[])).flatMap (Gq h)) []
def za.pick(h:za)(l:List Nat):za := @za.rec (λ_=>za) (λt0 n r=>⟨l.foldl (λt b=>t.set b (t0.get b)) .e,n,r⟩) h
def za.Xe(h:za)(l:List Nat):za := @za.rec (λ_=>za) (λt0 n r=>⟨l.foldl (λt b=>t.set b none) t0,n,r⟩) h
def za.SC(h g:za)(l:List Nat):za := @za.rec (λ_=>za) (λt0 _ r=>@za.rec (λ_=>za) (λt1 n _=>⟨l.foldl (λt b=>t.set b (t1.get b)) t0,n,r⟩) g) h
def za.dg(h' h:za)(l:List Nat):za := @za.rec (λ_=>za) (λt0 n r=>⟨l.foldl (λt b=>t.set b (h.get b)) t0,n,r⟩) h'
def eJ(s:Env)(dsts:List Nat):List Oper->Nat->Nat->List Nat
 |[],_,_=>[]
 |o::os,j,desc=>cond (o.after.toList.any λe=>Region.binds .any e&&desc.testBit e.on)
  (eJ s dsts os (j+1) (desc ||| (1 <<< j)))
  ((cond (AO o.op) (o.op.operands.toList.flatMap λx=>(match x with
    | .tmp t=>cond (dsts.contains t) [] (T5 (s.get t))
    |_=>[])) [])++eJ s dsts os (j+1) desc)
def XL:Builtin->Bool
 | .len | .cap | .min | .max | .unsafeSliceData=>true
 |_=>false
def XT:Op->Bool
 | .call {callee := .builtin b,.. } => !XL b
 | .store _ _ _=>true
 | .mapUpdate _ _ _ _=>true
 | .next _ _=>true
 | .call _=>true
 |_=>false
def pr(P:Program)(cls:List Nat)(rec:Xo)(ops:Array Oper)(recs:List lH)(mask i:Nat)(os:List Oper)(o:Oper)(s:Env)(h:za):Option (lH×za) :=
 cond (yw ops s o)
  (match o.op with
   | .call {callee := .value f,args,argTypes}=>(match kT s f,VO s args.toList with
     |some (.func (.func g) fa fc),some vs=>
      (match cls.getD g 0 with
       |1=>
        let hid:=((recs.flatMap λx=>cond (mask.testBit x.r.j) [] (x.FL++x.rdl))++eJ s ((o::os).filterMap (·.dst)) os (i+1) (1 <<< i)).filter λb=>Nat.blt b h.next
        (match rec (.call g (fa.toList++vs++fc.toList)) (h.Xe hid) with
         |some (.val v,h')=>some (⟨⟨i,o,v,s,h.Xe hid,h',λb=>Nat.blt b h.next && !hid.contains b,λb=>Nat.blt b h'.next && !hid.contains b⟩,[],true,false,[],false⟩,h'.dg h hid)
         |_=>none)
       |2=>
        let hid:=recs.flatMap λx=>cond (mask.testBit x.r.j) [] x.FL
        (match rec (.call g (fa.toList++vs++fc.toList)) (h.Xe hid).lock with
         |some (.val v,_)=>cond (iz v) (some (⟨⟨i,o,v,s,h.Xe hid,h.Xe hid,λb=>Nat.blt b h.next && !hid.contains b,λ_=>false⟩,[],false,false,[],false⟩,h)) none
         |_=>none)
       |3=>
        let hid:=recs.flatMap λx=>cond (mask.testBit x.r.j) [] x.FL
        (match rec (.call g (fa.toList++vs++fc.toList)) (h.Xe hid).lock with
         |some (.val v,h2)=>
          let new:=List.range' h.next (h2.next-h.next)
          some (⟨⟨i,o,v,s,h.Xe hid,vE (h.Xe hid) h2,λb=>Nat.blt b h.next && !hid.contains b,λb=>new.contains b⟩,new,false,false,[],false⟩,vE h h2)
         |_=>none)
       |_=>(match BB P g (fa.toList++vs++fc.toList) (h.pick []) with
        |some (v,g')=>
         let new:=List.range' h.next (g'.next-h.next)
         some (⟨⟨i,o,v,s,h.pick [],g',λ_=>false,λb=>new.contains b⟩,new,false,new.isEmpty,[],true⟩,h.SC g' new)
        |none=>none))
     |_,_=>none)
   |_=>
    let bs:=PC s o h
    (match UM P s o (h.pick bs) with
     |some (v,g')=>
      let new:=List.range' h.next (g'.next-h.next)
      let FL:=cond (XT o.op) (bs++new) new
      some (⟨⟨i,o,v,s,h.pick bs,g',λb=>bs.contains b,λb=>FL.contains b⟩,FL,false,bs.isEmpty&&FL.isEmpty,bs,true⟩,h.SC g' FL)
     |none=>none))
  (some (⟨⟨i,o,undef,s,h.pick [],h.pick [],λ_=>false,λ_=>false⟩,[],false,true,[],true⟩,h))
def Q2(P:Program)(cls:List Nat)(rec:Xo)(ops:Array Oper):List Oper->Nat->List Nat->List lH->Env->za->Option (Env×za)
 |[],_,_,_,s,h=>some (s,h)
 |o::os,i,ms,recs,s,h=>
  (match pr P cls rec ops recs (yC ms o) i os o s h with
   |some (y,h1)=>cond (y.bH||recs.all λx=>pK x y||(yC ms o).testBit x.r.j)
     (match s.put o.dst y.r.v with
      |some s1=>Q2 P cls rec ops os (i+1) (ms++[yC ms o]) (y::recs) s1 h1
      |none=>none) none
   |none=>none)
def body(P:Program)(cls:List Nat)(rec:Xo):Task->za->Option (Out×za)
 | .call f args,h=>(match P.funcs[f]? with
   |none=>none
   |some fn=>(match fn.body with
    |none=>none
    |some c=>(match rec (.code none c (Env.enter args fn.ntmps)) h with
     |some (.ex .normal s1,h1)=>(match qJ P s1 h1 fn.results.toList with
      |some vs=>some (.val (xV vs),h1)
      |none=>none)
     |some (.ex .ret s1,h1)=>(match qJ P s1 h1 fn.results.toList with
      |some vs=>some (.val (xV vs),h1)
      |none=>none)
     |_=>none)))
 | .code rd c s,h=>(match c with
   | .skip=>some (.ex .normal s,h)
   | .label _=>some (.ex .normal s,h)
   | .exit id=>some (.ex (.exit id) s,h)
   | .ret=>some (.ex .ret s,h)
   | .seq a b=>(match rec (.code rd a s) h with
     |some (.ex .normal s1,h1)=>rec (.code rd b s1) h1
     |r=>r)
   | .cond x a b=>(match kT s x with
     |some (.bool true)=>rec (.code rd a s) h
     |some (.bool false)=>rec (.code rd b s) h
     |_=>none)
   | .block id a=>(match rec (.code rd a s) h with
     |some (.ex (.exit id') s1,h1)=>cond (Nat.beq id' id) (some (.ex .normal s1,h1)) (some (.ex (.exit id') s1,h1))
     |r=>r)
   | .scope a=>rec (.code rd a s) h
   | .loop a=>(match rec (.code rd a s) h with
     |some (.ex .normal s1,h1)=>rec (.code rd (.loop a) s1) h1
     |r=>r)
   | .region _ ops draw=>cond draw
     (cond (ZQ ops ops.toList 0 [] []) (match Q2 P cls rec ops ops.toList 0 [] [] s h with
      |some (s1,h1)=>some (.ex .normal s1,h1)
      |none=>none) none)
     (match Ki P cls rec ops ops.toList s h with
      |some (s1,h1)=>some (.ex .normal s1,h1)
      |none=>none)
   | .rangeFunc f params as bd=>(match rH cls rec rd (kT s f) params as bd s h with
     |some (e,h1)=>some (.ex e s,h1)
     |none=>none)
   |_=>none)
def run(P:Program)(cls:List Nat)(n:Nat):Xo:=Nat.rec (λ_ _=>none) (λ_ rec=>body P cls rec) n
end
noncomputable section
variable {P:Program}{cls:List Nat}
theorem Zc{α:Type}(f:Nat->Option α)(j:Nat):∀(l:List Nat) (t:Tr α),(l.foldl (λt b=>t.set b (f b)) t).get j=if j∈l then f j else t.get j
 |[],t=>by simp
 |b::l,t=>by
  rw[List.foldl_cons,Zc f j l,Tr.yq];by_cases h:j∈l
  ·simp[h]
  ·by_cases e:j=b
   ·subst e;simp[h]
   ·simp[h,e]
theorem ux(h:za)(l:List Nat)(b:Nat):(h.pick l).get b=if b∈l then h.get b else none:=by
 show(l.foldl (λt b=>t.set b (h.get b)) Tr.e).get b=_;rw[Zc];rfl
theorem uT(h:za)(l:List Nat)(b:Nat):(h.Xe l).get b=if b∈l then none else h.get b:=by
 show(l.foldl (λt b=>t.set b none) h.t).get b=_;rw[Zc (λ_=>none)];rfl
theorem Jt(h g:za)(l:List Nat)(b:Nat):(h.SC g l).get b=if b∈l then g.get b else h.get b:=by
 show(l.foldl (λt b=>t.set b (g.get b)) h.t).get b=_;rw[Zc];rfl
theorem ZK(h' h:za)(l:List Nat)(b:Nat):(h'.dg h l).get b=if b∈l then h.get b else h'.get b:=by
 show(l.foldl (λt b=>t.set b (h.get b)) h'.t).get b=_;rw[Zc];rfl
theorem Zk{a c b:Nat}:b∈List.range' a (c-a) ↔ a<=b/\b<c:=by
 rw[List.mem_range'_1];omega
theorem wU(h h2:za)(b:Nat):(vE h h2).get b=if h.next<=b/\b<h2.next then h2.get b else h.get b:=by
 show((List.range' h.next (h2.next-h.next)).foldl (λt b=>t.set b (h2.get b)) h.t).get b=_;rw[Zc];by_cases hb:h.next<=b/\b<h2.next
 ·rw[aah (Zk.2 hb),aah hb]
 ·rw[aae (λhm=>hb (Zk.1 hm)),aae hb];rfl
theorem TC.fresh{f:FuncId}{args:List aaa}{h h2:za}{v:aaa}(ht:TC P f args h.lock (λv1 h1=>v1=v/\h1=h2)):TC P f args h (λv1 h1=>v1=v/\h1=vE h h2):=by
 intro ρ w cargs hr hv;refine(ht ρ w cargs hr.lock hv).mono λe w'=>?_;rintro⟨v1,v',h',ρ',e1,⟨rfl,rfl⟩,st,hvv⟩
 have nomine:∀c,¬mE ρ h.lock c:=by
  rintro c ⟨b,o,pl,hg,hro,_⟩;have h1:h.next<=b:=hro;have h2:=hr.KJ b o hg;omega
 have hsame:∀c,c<w.heap.size->w'.heap[c]? = w.heap[c]?:=λc hc=>st.frame c hc (nomine c);have hn:h.next<=h'.next:=by have:=st.le.1;rw[hr.next,st.rel.next]at this;exact this
 have hold:∀b,b<h.next->ρ'.m b=ρ.m b:=λb hb=>st.le.2 b (by rw[hr.next];exact hb)
 have cases':∀b o,(vE h h').get b=some o->(h.next<=b/\b<h'.next/\h'.get b=some o)\/(b<h.next/\h.get b=some o):=by
  intro b o hg;rw[wU]at hg;split at hg
  ·rename_i hb;exact .inl ⟨hb.1,hb.2,hg⟩
  ·exact .inr ⟨hr.KJ b o hg,hg⟩
 refine⟨v1,v',vE h h',ρ',e1,⟨rfl,rfl⟩,⟨st.le,⟨st.rel.next,aaU hr.ro hn,?_,?_,?_,hr.lq,st.rel.Y0⟩,rfl,st.os,st.tape,st.output,st.size,λc hc _=>hsame c hc,?_⟩,hvv⟩
 ·intro b o hg;rcases cases' b o hg with⟨_,h2,_⟩|⟨h1,_⟩
  ·exact h2
  ·exact aap h1 hn
 ·intro b o hg;rcases cases' b _ hg with⟨h1,h2,h3⟩|⟨h1,h3⟩
  ·obtain⟨pl,hp,hc⟩:=st.rel.ok b o h3;refine⟨pl,hp,hc.Nc (λ_=>?_)⟩;rw[st.ro];exact aa1 h1
  ·obtain⟨pl,hp,hc⟩:=hr.ok b o h3;exact⟨pl,(hold b h1).trans hp,(hc.mono st.le).other (hsame _ hc.lt)⟩
 ·have key:∀b1 b2 o1 o2 p1 p2,h.next<=b1->h'.get b1=some o1->b2<h.next->h.get b2=some o2->ρ'.m b1=some p1->ρ'.m b2=some p2->p1.c=p2.c->False:=by
   intro b1 b2 o1 o2 p1 p2 l1 g1 l2 g2 m1 m2 ec;obtain⟨pl,hp,hc⟩:=hr.ok b2 o2 g2;rw[hold b2 l2,hp]at m2;cases m2;have:=st.mo p1.c (by rw[ec];exact hc.lt) ⟨b1,o1,p1,g1,by rw[st.ro];exact l1,m1,rfl⟩;exact nomine _ this
  intro b1 b2 o1 o2 p1 p2 g1 g2 m1 m2 ec;rcases cases' b1 o1 g1 with⟨l1,_,k1⟩|⟨l1,k1⟩ <;> rcases cases' b2 o2 g2 with⟨l2,_,k2⟩|⟨l2,k2⟩
  ·exact st.rel.inj b1 b2 o1 o2 p1 p2 k1 k2 m1 m2 ec
  ·exact(key b1 b2 o1 o2 p1 p2 l1 k1 l2 k2 m1 m2 ec).elim
  ·exact(key b2 b1 o2 o1 p2 p1 l2 k2 l1 k1 m2 m1 ec.symm).elim
  ·rw[hold b1 l1]at m1;rw[hold b2 l2]at m2;exact hr.inj b1 b2 o1 o2 p1 p2 k1 k2 m1 m2 ec
 ·rintro c hc ⟨b,o,pl,hg,hro,hm,rfl⟩;rcases cases' b o hg with⟨l1,_,k1⟩|⟨l1,k1⟩
  ·exact(nomine _ (st.mo pl.c hc ⟨b,o,pl,k1,by rw[st.ro];exact l1,hm,rfl⟩)).elim
  ·rw[hold b l1]at hm;exact⟨b,o,pl,k1,hro,hm,rfl⟩
def Yl(P:Program)(cls:List Nat):Bool:=(List.range cls.length).all λg=>Nat.beq (cls.getD g 0) 0||xW P g
theorem ZH{g:FuncId}{k:Nat}(hC:Yl P cls=true)(h:cls.getD g 0=k+1):xW P g=true:=by
 simp only[Yl,aav,abj,aaV]at hC
 have hg:g<cls.length:=by
  rcases aaI g cls.length with h1|h1
  ·exact h1
  ·rw[abd,aas h1]at h;cases h
 rcases hC g hg with h1|h1
 ·rw[h]at h1;cases h1
 ·exact h1
structure Sound (P:Program) (rec:Xo):Prop where
 code:∀rd c s h e s' h',rec (.code rd c s) h=some (.ex e s',h')->T P rd c s h (λe1 s1 h1=>e1=e/\s1=s'/\h1=h')
 call:∀f args h v h',rec (.call f args) h=some (.val v,h')->TC P f args h (λv1 h1=>v1=v/\h1=h')
 kind:∀rd c s h o h',rec (.code rd c s) h=some (o,h')->∃e s',o=.ex e s'
 zdE:∀f args h o h',rec (.call f args) h=some (o,h')->∃v,o=.val v
theorem Eo{rec:Xo}(S:Sound P rec)(hC:Yl P cls=true){g:FuncId}{args:List aaa}{h h':za}{v:aaa}(he:Em cls rec g args h=some (v,h')) :
  xW P g=true/\TC P g args h (λv1 h1=>v1=v/\h1=h'):=by
 unfold Em at he;split at he
 ·rename_i hk;refine⟨ZH hC hk,?_⟩;split at he
  ·rename_i v1 h1 hrec;simp only[aab,aaf]at he;obtain⟨rfl,rfl⟩:=he;exact S.call _ _ _ _ _ hrec
  ·cases he
 ·rename_i hk;refine⟨ZH hC hk,?_⟩;split at he
  ·rename_i v1 h1 hrec;obtain⟨hsc,he⟩:=zq he;simp only[aab,aaf]at he;obtain⟨rfl,rfl⟩:=he;refine((S.call _ _ _ _ _ hrec).quiet (λv2 h2 q=>by rw[q.1];exact hsc)).mono ?_;rintro v2 h2 ⟨⟨h3,q1,q2⟩,rfl⟩;exact⟨q1,rfl⟩
  ·cases he
 ·rename_i hk;refine⟨ZH hC hk,?_⟩;split at he
  ·rename_i v1 h2 hrec;simp only[aab,aaf]at he;obtain⟨rfl,rfl⟩:=he;exact(S.call _ _ _ _ _ hrec).fresh
  ·cases he
 ·cases he
theorem Cu{rec:Xo}(S:Sound P rec){L:Nat}{args:List aaa}{h h':za}{v:aaa}(he:rK rec L args h=some (v,h')):TY P L args h (λv1 h1=>v1=v/\h1=h'):=by
 unfold rK at he;split at he
 case h_2=>cases he
 rename_i A hg;split at he
 case h_2=>cases he
 rename_i s0 hs0;split at he
 case h_2=>cases he
 rename_i s1 h1 hrec;split at he
 case h_2=>cases he
 rename_i A1 g1;obtain⟨hc,he⟩:=zq he;simp only[aac]at hc;split at he
 case h_2=>cases he
 rename_i e s2 h2 hrec2;split at he
 case h_2=>cases he
 rename_i A2 g2;obtain⟨hro,he⟩:=zq he;simp only[aab,aaf]at he;obtain⟨rfl,rfl⟩:=he;refine Hw hg hs0 ((S.code _ _ _ _ _ _ _ hrec).mono ?_);rintro e1 s3 h3 ⟨rfl,rfl,rfl⟩;refine⟨rfl,A1,g1,?_,aaF hc.2,(S.code _ _ _ _ _ _ _ hrec2).mono ?_⟩
 ·cases hst:A1.state <;> first|rfl|(rw[hst]at hc;cases hc.1)
 ·rintro e1 s3 h3 ⟨rfl,rfl,rfl⟩;refine⟨A2,g2,aaF hro,?_,rfl⟩;cases e1 <;> rfl
theorem EX{p:Option Code}{e:Ex}(h:zaL p=some e):XF e=p:=by
 unfold zaL at h;split at h <;> first|(simp only[aab]at h;subst h;rfl)|cases h
theorem Co{rec:Xo}(S:Sound P rec)(hC:Yl P cls=true){rd:Option Nat}{f:Operand}{params:Array Tmp}{as bd:Code}{s:Env}{h h':za}{e:Ex}(he:rH cls rec rd (kT s f) params as bd s h=some (e,h')) :
  T P rd (.rangeFunc f params as bd) s h (λe1 s1 h1=>e1=e/\s1=s/\h1=h'):=by
 unfold rH at he;split at he
 case h_2=>cases he
 rename_i g fa fc hf;obtain⟨hc,he⟩:=zq he;simp only[aac]at hc;split at he
 case h_2=>cases he
 rename_i v h1 hrec;split at he
 case h_2=>cases he
 rename_i A hA;obtain⟨hb,he⟩:=zq he;simp only[aac]at hb;split at he
 case h_2=>cases he
 rename_i e1 hex;simp only[aab,aaf]at he;obtain⟨rfl,rfl⟩:=he;refine iF hf (ZH (k:=0) hC (aal hc.1)) ?_ ((S.call _ _ _ _ _ hrec).mono ?_)
 ·rintro L rfl;have:=hc.2;simp only at this;split at this
  ·rename_i A0 g0;exact⟨A0,g0⟩
  ·cases this
 ·rintro v1 h2 ⟨rfl,rfl⟩;refine⟨A,hA,?_,aaF hb.2,e1,EX hex,rfl,rfl,rfl⟩;cases hst:A.state <;> first|rfl|(rw[hst]at hb;cases hb.1)
theorem Kj{rec:Xo}(S:Sound P rec)(hC:Yl P cls=true){ops:Array Oper}:∀(l:List Oper) (i:Nat) {s s':Env} {h h':za},ops.toList.drop i=l->Ki P cls rec ops l s h=some (s',h') ->
  TO P ops (List.range' i l.length) s h (λs1 h1=>s1=s'/\h1=h')
 |[],i,s,s',h,h',hl,he=>by
  simp only[Ki,aab,aaf]at he;exact Np ⟨he.1,he.2⟩
 |o::os,i,s,s',h,h',hl,he=>by
  have ho:ops[i]? = some o:=by
   have:=congrArg (λl=>l[0]?) hl;simp only[aaQ,aaC]at this;simpa using this
  have hl':ops.toList.drop (i+1)=os:=by rw[<- acm,hl];rfl
  rw[abc,List.range'_succ];simp only[Ki]at he;cases hw:yw ops s o with
  |false=>
   rw[hw]at he;simp only[aaH]at he;split at he
   ·rename_i s1 hp;exact Hv ho hw hp (Kj S hC os (i+1) hl' he)
   ·cases he
  |true=>
   rw[hw]at he;simp only[aaw]at he;split at he
   ·rename_i v h1 hev;split at he
    ·rename_i s1 hp;have hrest:=Kj S hC os (i+1) hl' he;unfold evalOp at hev;split at hev
     ·rename_i f args ts yj;split at hev
      ·rename_i g fa fc vs hf hargs;cases hk:Nat.beq (cls.getD g 0) 0 with
       |true=>
        rw[hk]at hev;simp only[aaw]at hev;exact Ty ho hw (by rw[yj];rfl) (λρ w a hr hs=>BC yj hf hargs hev hr hs) hp hrest
       |false=>
        rw[hk]at hev;simp only[aaH]at hev;obtain⟨h1c,h2c⟩:=Eo S hC hev;exact Hu ho hw yj hf hargs h1c h2c (by rintro v2 h2 ⟨rfl,rfl⟩;exact⟨s1,hp,hrest⟩)
      ·rename_i L fa fc vs hf hargs;obtain⟨hz,hev⟩:=zq hev;simp only[aac]at hz;obtain rfl:=Ub hz.1;obtain rfl:=Ub hz.2;exact CM ho hw yj hf hargs (Cu S hev) (by rintro v2 h2 ⟨rfl,rfl⟩;exact⟨s1,hp,hrest⟩)
      ·cases hev
     ·exact Tz ho hw hev hp hrest
    ·cases he
   ·cases he
end
noncomputable section
variable {P:Program}{cls:List Nat}
structure AF (h h':za):Prop where
 next:h.next<=h'.next
 ro:h'.ro=h.ro
 alive:∀b o,h'.get b=some o->h.get b≠none\/(h.next<=b/\b<h'.next)
theorem AF.refl(h:za):AF h h:=⟨aaj _,rfl,λb o hb => .inl (by rw[hb];simp)⟩
theorem AF.trans{a b c:za}(h:AF a b)(k:AF b c):AF a c:=by
 refine⟨aaU h.next k.next,k.ro.trans h.ro,λx o hx=>?_⟩;rcases k.alive x o hx with h1|⟨h1,h2⟩
 ·obtain⟨o',ho'⟩:∃o,b.get x=some o:=by cases hh:b.get x with|none=>exact absurd hh h1|some o=>exact⟨o,rfl⟩
  rcases h.alive x o' ho' with h2|⟨h2,h3⟩
  ·exact .inl h2
  ·exact .inr ⟨h2,aap h3 k.next⟩
 ·exact .inr ⟨aaU h.next h1,h2⟩
theorem AF.push(h:za)(o:wS):AF h (h.push o):=⟨abx _,rfl,λb o' hb=>by
 rw[za.vJ]at hb;split at hb
 ·rename_i e;subst e;exact .inr ⟨aaj _,aa6 _⟩
 ·exact .inl (by rw[hb];simp)⟩
theorem AF.UJ{h:za}{b:Nat}{o:wS}(hb:h.get b=some o)(x:Option wS):AF h (h.set b x):=⟨aaj _,rfl,λc o' hc=>by
 rw[za.yq]at hc;split at hc
 ·rename_i e;subst e;exact .inl (by rw[hb];simp)
 ·exact .inl (by rw[hc];simp)⟩
theorem Gk{h h':za}{b off:Nat}{new:List aaa}(he:QV h b off new=some h'):AF h h':=by
 unfold QV at he;cases hz:Nat.beq new.length 0 with
 |true=>rw[hz]at he;simp only[aaw,aab]at he;subst he;exact .refl _
 |false=>
  rw[hz]at he;simp only[aaH]at he;split at he
  ·rename_i hg;obtain⟨_,he⟩:=zq he;simp only[aab]at he;subst he;exact .UJ hg _
  ·cases he
theorem Ak{t:TypeId}{a v:aaa}{h h':za}(he:vH P t a v h=some h'):AF h h':=by
 unfold vH at he;split at he
 ·split at he
  ·cases he
  ·rename_i hg;split at he
   ·cases he
   ·obtain⟨_,he⟩:=zq he;simp only[aab]at he;subst he;exact .UJ hg _
  ·cases he
 ·cases he
theorem Gc{sT xT:TypeId}{s x v:aaa}{h h':za}(he:V8 P sT xT s x h=some (v,h')):AF h h':=by
 unfold V8 at he;split at he
 case h_2=>cases he
 rename_i elem xd n _ _ _;split at he
 case h_2=>cases he
 split at he
 case h_2=>cases he
 obtain⟨_,he⟩:=zq he;unfold U0 at he;split at he
 ·cases hz:Nat.beq n 0 with
  |true=>rw[hz]at he;simp only[aaw,aab,aaf]at he;obtain⟨_,rfl⟩:=he;exact .refl _
  |false=>
   rw[hz]at he;obtain⟨_,he⟩:=zq (show cond _ _ none=_ from he);simp only[aab,aaf]at he;obtain⟨_,rfl⟩:=he;exact .push _ _
 ·cases hz:Nat.beq n 0 with
  |true=>rw[hz]at he;simp only[aaw,aab,aaf]at he;obtain⟨_,rfl⟩:=he;exact .refl _
  |false=>
   rw[hz]at he;simp only[aaH]at he;split at he
   ·rename_i hg;obtain⟨_,he⟩:=zq he;simp only[aab,aaf]at he;obtain⟨_,rfl⟩:=he;exact(AF.UJ hg none).trans (.push _ _)
   ·cases he
 ·cases he
theorem N3{t:TypeId}{d x v:aaa}{h h':za}(he:oB P t d x h=some (v,h')):AF h h':=by
 unfold oB at he;split at he
 case h_2=>cases he
 split at he
 case h_1=>cases he
 split at he
 case h_1=>cases he
 split at he
 ·simp only[aab,aaf]at he;obtain⟨_,rfl⟩:=he;exact .refl _
 ·simp only[aau,aaf]at he;obtain⟨h2,hs,_,rfl⟩:=he;exact Gk hs
 ·cases he
theorem LN{t:TypeId}{x:aaa}{h h':za}(he:oA P t x h=some h'):AF h h':=by
 unfold oA at he;cases he
theorem sy{t:TypeId}{x k v:aaa}{h h':za}(he:qI P t x k v h=some h'):AF h h':=by
 unfold qI at he;split at he
 case h_2=>cases he
 split at he
 case h_2=>cases he
 rename_i hg;split at he
 case h_2=>cases he
 obtain⟨_,he⟩:=zq he;split at he
 ·split at he
  ·obtain⟨_,he⟩:=zq he;simp only[aab]at he;subst he;exact .UJ hg _
  ·cases he
 ·simp only[aab]at he;subst he;exact .UJ hg _
 ·cases he
theorem sw{t:TypeId}{x k:aaa}{h h':za}(he:Yr P t x k h=some h'):AF h h':=by
 unfold Yr at he;split at he
 case h_2=>cases he
 split at he
 case h_2=>cases he
 rename_i hg;split at he
 case h_2=>cases he
 obtain⟨_,he⟩:=zq he;split at he
 ·simp only[aab]at he;subst he;exact .UJ hg _
 ·simp only[aab]at he;subst he;exact .refl _
 ·cases he
theorem Oa{x v:aaa}{str:Bool}{h h':za}(he:Ag P x str h=some (v,h')):AF h h':=by
 unfold Ag at he;cases he
def Still(h h':za):Prop:=h'=h \/ ∃o,h'=h.push o
theorem Still.af{h h':za}(s:Still h h'):AF h h':=by
 rcases s with rfl|⟨o,rfl⟩
 ·exact .refl _
 ·exact .push _ _
theorem D7{t:TypeId}{l c v:aaa}{h h':za}(he:V9 P t l c h=some (v,h')):Still h h':=by
 unfold V9 at he;split at he
 case h_2=>cases he
 split at he
 case h_1=>cases he
 split at he
 case h_1=>cases he
 obtain⟨_,he⟩:=zq he;simp only[aab,aaf]at he;obtain⟨_,rfl⟩:=he;exact .inr ⟨_,rfl⟩
theorem Bv{src dst:TypeId}{x v:aaa}{h h':za}(he:QP P src dst x h=some (v,h')):Still h h':=by
 unfold QP at he;split at he
 ·simp only[aab,aaf]at he;obtain⟨_,rfl⟩:=he;exact .inl rfl
 ·split at he
  ·split at he
   ·simp only[aab,aaf]at he;obtain⟨_,rfl⟩:=he;exact .inr ⟨_,rfl⟩
   ·cases he
  ·split at he
   ·simp only[aau,aaf]at he;obtain⟨_,_,_,rfl⟩:=he;exact .inl rfl
   ·cases he
  ·cases he
theorem D0{src dst:TypeId}{x v:aaa}{h h':za}(he:w9 P src dst x h=some (v,h')):Still h h':=by
 unfold w9 at he;split at he
 ·rename_i r hc;simp only[aab]at he;subst he;exact Bv hc
 ·simp only[aau,aaf]at he;obtain⟨_,_,_,rfl⟩:=he;exact .inl rfl
theorem zau{pt:TypeId}{p v:aaa}{n:Int}{h h':za}(he:aus P pt p n h=some (v,h')):AF h h':=by
 unfold aus at he;split at he
 ·obtain⟨_,he⟩:=zq he;simp only[aab,aaf]at he;obtain⟨_,rfl⟩:=he;exact .refl _
 ·cases hn:decide (n=0) with
  |true=>rw[hn]at he;simp only[aaw,aab,aaf]at he;obtain⟨_,rfl⟩:=he;exact .refl _
  |false=>
   rw[hn]at he;simp only[aaH]at he;split at he
   case h_2=>cases he
   rename_i hg;split at he
   case h_2=>cases he
   obtain⟨_,he⟩:=zq he;simp only[aab,aaf]at he;obtain⟨_,rfl⟩:=he;exact .UJ hg _
 ·cases he
theorem eH{t:TypeId}{n:Nat}{ps:List (Nat×aaa)}{v:aaa}{h h':za}(he:zj P t n ps h=some (v,h')):Still h h':=by
 unfold zj at he;split at he
 case h_2=>cases he
 split at he
 case h_2=>cases he
 obtain⟨_,he⟩:=zq he;split at he
 case h_2=>cases he
 obtain⟨_,he⟩:=zq he;simp only[aab,aaf]at he;obtain⟨_,rfl⟩:=he;exact .inr ⟨_,rfl⟩
theorem uL{x:Option aaa}{v:aaa}{h h':za}(he:one h x=some (v,h')):Still h h' := .inl (vK he).2
theorem DX{b:Builtin}{ts:List TypeId}{r:TypeId}{vs:List aaa}{v:aaa}{h h':za}(he:zF P b ts r vs h=some (v,h')):AF h h':=by
 unfold zF at he;split at he
 ·exact Gc he
 ·exact N3 he
 ·simp only[aau,aaf]at he;obtain⟨_,_,_,rfl⟩:=he;exact .refl _
 ·simp only[aau,aaf]at he;obtain⟨_,hc,_,rfl⟩:=he;exact LN hc
 ·obtain⟨_,he⟩:=zq he;simp only[aau,aaf]at he;obtain⟨_,_,_,rfl⟩:=he;exact .refl _
 ·obtain⟨_,he⟩:=zq he;simp only[aau,aaf]at he;obtain⟨_,_,_,rfl⟩:=he;exact .refl _
 ·simp only[aau,aaf]at he;obtain⟨_,hc,_,rfl⟩:=he;exact sw hc
 ·simp only[aau,aaf]at he;obtain⟨_,_,_,rfl⟩:=he;exact .refl _
 ·simp only[aau,aaf]at he;obtain⟨_,_,_,rfl⟩:=he;exact .refl _
 ·exact zau he
 ·cases he
theorem BH{t:TypeId}{x v:aaa}{h h':za}(he:gT P t x h=some (v,h')):Still h h':=by
 unfold gT at he;cases he
theorem Jb{b:Builtin}{ts:List TypeId}{r:TypeId}{vs:List aaa}{v:aaa}{h h':za}(hq:XL b=true)(he:zF P b ts r vs h=some (v,h')):h'=h:=by
 unfold zF at he
 split at he <;> first
  |(simp[XL]at hq;done)
  |(simp only[aau,aaf]at he;obtain⟨_,_,_,rfl⟩:=he;rfl)
  |(obtain⟨_,he⟩:=zq he;simp only[aau,aaf]at he;obtain⟨_,_,_,rfl⟩:=he;rfl)
  |cases he
theorem Xz{g:FuncId}{args:List aaa}{v:aaa}{h h':za}(he:BB P g args h=some (v,h')):Still h h':=by
 unfold BB at he;split at he
 ·rename_i r hn;simp only[aab]at he;subst he;unfold IU at hn;split at hn
  case h_2=>cases hn
  obtain⟨_,hn⟩:=zq hn;split at hn
  case h_2=>cases hn
  simp only[aab,aaf]at hn;obtain⟨_,rfl⟩:=hn;exact .inl rfl
 ·unfold p6 at he;split at he
  case h_2=>cases he
  obtain⟨_,he⟩:=zq he;split at he
  case h_2=>cases he
  split at he
  case h_2=>cases he
  obtain⟨_,he⟩:=zq he;simp only[aab,aaf]at he;obtain⟨_,rfl⟩:=he;exact .inr ⟨_,rfl⟩
theorem Z2{s:Env}{o:Oper}{v:aaa}{h h':za}(he:UM P s o h=some (v,h')):AF h h'/\(XT o.op=false->Still h h'):=by
 unfold UM at he;split at he <;> rename_i yj
 ·have:=uL he;exact⟨this.af,λ_=>this⟩
 ·have:=uL he;exact⟨this.af,λ_=>this⟩
 ·split at he
  ·have:=uL he;exact⟨this.af,λ_=>this⟩
  ·have:=uL he;exact⟨this.af,λ_=>this⟩
  ·cases he
 ·split at he
  ·simp only[aab,sO,aaf]at he;obtain⟨_,rfl⟩:=he;exact⟨.push _ _,λ_ => .inr ⟨_,rfl⟩⟩
  ·cases he
 ·split at he
  ·simp only[aab,sO,aaf]at he;obtain⟨_,rfl⟩:=he;exact⟨.push _ _,λ_ => .inr ⟨_,rfl⟩⟩
  ·cases he
 ·split at he
  ·have:=uL he;exact⟨this.af,λ_=>this⟩
  ·cases he
 ·split at he
  ·have:=eH he;exact⟨this.af,λ_=>this⟩
  ·cases he
 ·split at he
  ·have:=uL he;exact⟨this.af,λ_=>this⟩
  ·cases he
 ·split at he
  ·split at he
   ·rename_i hs;simp only[aab,aaf]at he;obtain⟨_,rfl⟩:=he;exact⟨Ak hs,λhw=>by rw[yj]at hw;cases hw⟩
   ·cases he
  ·cases he
 ·split at he
  ·simp only[aab,aaf]at he;obtain⟨_,rfl⟩:=he;exact⟨.refl _,λ_ => .inl rfl⟩
  ·simp only[aab,aaf]at he;obtain⟨_,rfl⟩:=he;exact⟨.refl _,λ_ => .inl rfl⟩
  ·cases he
 ·split at he
  ·have:=uL he;exact⟨this.af,λ_=>this⟩
  ·cases he
 ·split at he
  ·obtain⟨_,he⟩:=zq he;have:=uL he;exact⟨this.af,λ_=>this⟩
  ·cases he
 ·split at he
  ·have:=D0 he;exact⟨this.af,λ_=>this⟩
  ·cases he
 ·split at he
  ·split at he
   ·simp only[aab,aaf]at he;obtain⟨_,rfl⟩:=he;exact⟨.refl _,λ_ => .inl rfl⟩
   ·cases he
  ·cases he
 ·split at he
  ·simp only[aab,aaf]at he;obtain⟨_,rfl⟩:=he;exact⟨.refl _,λ_ => .inl rfl⟩
  ·cases he
 ·split at he
  ·have:=D7 he;exact⟨this.af,λ_=>this⟩
  ·cases he
 ·split at he
  ·split at he
   ·simp only[aab,aaf]at he;obtain⟨_,rfl⟩:=he;exact⟨.refl _,λ_ => .inl rfl⟩
   ·cases he
  ·have:=uL he;exact⟨this.af,λ_=>this⟩
  ·cases he
 ·split at he
  ·have:=uL he;exact⟨this.af,λ_=>this⟩
  ·cases he
 ·split at he
  ·split at he
   ·split at he
    ·have:=uL he;exact⟨this.af,λ_=>this⟩
    ·cases he
   ·cases he
  ·cases he
 ·split at he
  ·have:=uL he;exact⟨this.af,λ_=>this⟩
  ·cases he
 ·split at he
  ·obtain⟨_,he⟩:=zq he;have:=uL he;exact⟨this.af,λ_=>this⟩
  ·cases he
 ·split at he
  ·have:=uL he;exact⟨this.af,λ_=>this⟩
  ·cases he
 ·split at he
  ·refine⟨DX he,λhw=>?_⟩;rw[yj]at hw;simp only[XT,Bool.not_eq_false']at hw;exact .inl (Jb hw he)
  ·cases he
 ·simp only[aab,wV,aaf]at he;obtain⟨_,rfl⟩:=he;exact⟨.push _ _,λ_ => .inr ⟨_,rfl⟩⟩
 ·split at he
  ·have:=uL he;exact⟨this.af,λ_=>this⟩
  ·cases he
 ·split at he
  ·split at he
   ·rename_i hu;simp only[aab,aaf]at he;obtain⟨_,rfl⟩:=he;exact⟨sy hu,λhw=>by rw[yj]at hw;cases hw⟩
   ·cases he
  ·cases he
 ·split at he
  ·have:=BH he;exact⟨this.af,λ_=>this⟩
  ·cases he
 ·split at he
  ·exact⟨Oa he,λhw=>by rw[yj]at hw;cases hw⟩
  ·cases he
 ·split at he
  ·have:=uL he;exact⟨this.af,λ_=>this⟩
  ·cases he
 ·cases he
end
noncomputable section
variable {P:Program}{cls:List Nat}
def Frames(rec:Xo):Prop := ∀t h o h',rec t h=some (o,h')->AF h h'
def WF(h:za):Prop := ∀b o,h.get b=some o->b<h.next
theorem WF.af{h h':za}(w:WF h)(a:AF h h'):WF h':=by
 intro b o hb;rcases a.alive b o hb with h1|⟨_,h2⟩
 ·obtain⟨o',ho'⟩:∃o,h.get b=some o:=by cases hh:h.get b with|none=>exact absurd hh h1|some o=>exact⟨o,rfl⟩
  exact aap (w b o' ho') a.next
 ·exact h2
theorem AF.lock{h h':za}(a:AF h.lock h'):h.next<=h'.next /\ ∀b o,h'.get b=some o->h.get b≠none\/(h.next<=b/\b<h'.next):=⟨a.next,a.alive⟩
theorem AF.vE{h h2:za}(hn:h.next<=h2.next):AF h (vE h h2):=⟨hn,rfl,λb o hb=>by
 rw[wU]at hb;split at hb
 ·rename_i hc;exact .inr hc
 ·exact .inl (by rw[hb];simp)⟩
def KL(ops:Array Oper)(ms:List Nat):Prop := ∀k q,(ms.getD k 0).testBit q=true->Prec ops q k
theorem u0{ops:Array Oper}{ms:List Nat}(hm:KL ops ms){i:Nat}{o:Oper}(ho:ops[i]? = some o){q:Nat}(h:(yC ms o).testBit q=true):Prec ops q i:=by
 have key:∀(l:List Edge) (m:Nat),(∀e,e∈l->e∈o.after)->(l.foldl (λm e=>cond (Region.binds .any e) (m ||| (1 <<< e.on) ||| ms.getD e.on 0) m) m).testBit q=true->m.testBit q=true\/Prec ops q i:=by
  intro l
  induction l with
  |nil=>intro m _ h;exact .inl h
  |cons e l ih=>
   intro m hl h;rw[List.foldl_cons]at h;rcases ih _ (λx hx=>hl x (by simp[hx])) h with h1|h1
   ·cases hb:Region.binds .any e with
    |false=>rw[hb]at h1;exact .inl h1
    |true=>
     rw[hb]at h1;simp only[aaw,Nat.testBit_or,aaV]at h1;rcases h1 with(h1|h1)|h1
     ·exact .inl h1
     ·rw[Nat.testBit_shiftLeft]at h1;simp only[aac,aaG,Nat.testBit_one_eq_true_iff_self_eq_zero]at h1;have:q=e.on:=by omega
      subst this;exact .inr (.one ho (hl e (by simp)) hb)
     ·exact .inr (.more ho (hl e (by simp)) hb (hm _ _ h1))
   ·exact .inr h1
 rcases key o.after.toList 0 (λe he=>by simpa using he) h with h1|h1
 ·simp at h1
 ·exact h1
theorem Wm{ops:Array Oper}{ms:List Nat}(hm:KL ops ms){i:Nat}(hl:ms.length=i){o:Oper}(ho:ops[i]? = some o):KL ops (ms++[yC ms o]):=by
 intro k q h;rcases Nat.lt_trichotomy k i with hk|hk|hk
 ·rw[abd,aa2 (by omega),<- abd]at h;exact hm k q h
 ·subst hk;rw[abd,aaZ (by omega),hl]at h;simp at h;exact u0 hm ho h
 ·rw[abd,aas (by simp;omega)]at h;simp at h
theorem pT(A:List yz)(r:yz)(p:yz->Bool):vv (A++[r]) p=if p r=true then some r else vv A p:=by
 simp only[vv,aaO,abL,List.filter_nil];by_cases h:p r=true
 ·simp[h]
 ·simp[h]
theorem Qd(A:List yz)(r:yz)(s0:Env)(t:Nat):UD (A++[r]) s0 t=if r.o.dst=some t then r.v else UD A s0 t:=by
 simp only[UD,pT,UN,aaG];by_cases h:r.o.dst=some t <;> simp[h]
theorem Ju(A:List yz)(r:yz)(h0:za)(b:Nat):YV (A++[r]) h0 b=if r.tc b=true then r.g'.get b else YV A h0 b:=by
 simp only[YV,pT];by_cases h:r.tc b=true <;> simp[h]
structure FOk (y:lH):Prop where
 tc:y.all=false->∀b,y.r.tc b=true ↔ b∈y.FL
 lt:∀b,y.all=true->y.r.tc b=true->True
 bH:y.bH=true->(∀b,y.r.rd b=false) /\ ∀b,y.r.tc b=false
 ex:y.ex=true->∀b,y.r.rd b=true->b∈y.rdl
theorem IE{ops:Array Oper}{x y:lH}(hx:FOk x)(hy:FOk y)(hs:ji ops x.r.o y.r.o=true)(h:y.bH=true\/pK x y=true):lI ops x.r y.r:=by
 simp only[ji,aac]at hs;obtain⟨h1,h2⟩:=hs
 have hd1:∀d,x.r.o.dst=some d->d∉y.r.o.looksAt ops/\y.r.o.dst≠some d:=by
  intro d hd;rw[hd]at h1;simp only[aac,aao,aam,aaE]at h1;exact⟨h1.1,h1.2⟩
 have hd2:∀d,y.r.o.dst=some d->d∉x.r.o.looksAt ops:=by
  intro d hd;rw[hd]at h2;simp only[aao,aam,aaE]at h2;exact h2
 rcases h with hl|h
 ·obtain⟨l1,l2⟩:=hy.bH hl;exact⟨hd1,hd2,λb _=>⟨l1 b,l2 b⟩,λb hb=>by rw[l2 b]at hb;cases hb⟩
 simp only[pK,aac]at h;obtain⟨h3,h4⟩:=h;refine⟨hd1,hd2,?_,?_⟩
 ·intro b hb;cases ha:x.all with
  |true=>
   rw[ha]at h3;simp only[aaw,aaV,aac,aao,aav]at h3;rcases h3 with h3|⟨⟨⟨h3,h5⟩,h6⟩,h7⟩
   ·exact⟨(hy.bH h3).1 b,(hy.bH h3).2 b⟩
   ·refine⟨?_,?_⟩
    ·cases hr:y.r.rd b with
     |false=>rfl
     |true=>have:=h6 b (hy.ex h3 b hr);rw[hb]at this;cases this
    ·cases hr:y.r.tc b with
     |false=>rfl
     |true=>have:=h7 b ((hy.tc h5 b).1 hr);rw[hb]at this;cases this
  |false=>
   rw[ha]at h3;simp only[aaH,aav,aac,aao]at h3;exact h3 b ((hx.tc ha b).1 hb)
 ·intro b hb;cases ha:y.all with
  |true=>
   rw[ha]at h4;simp only[aaw,aaV,aac,aao,aav]at h4;rcases h4 with h4|⟨h4,h5⟩
   ·exact(hx.bH h4).1 b
   ·cases hr:x.r.rd b with
    |false=>rfl
    |true=>have:=h5 b (hx.ex h4 b hr);rw[hb]at this;cases this
  |false=>
   rw[ha]at h4;simp only[aaH,aav,aao]at h4;exact h4 b ((hy.tc ha b).1 hb)
structure vB (P:Program) (ops:Array Oper) (s0:Env) (h0:za) (A:List yz) (i:Nat) (s:Env) (h:za):Prop where
 js:A.map (·.j)=List.range i
 env:∀t,s.get t=UD A s0 t
 size:s.size=s0.size
 heap:∀b,h.get b=YV A h0 b
 ro:h.ro=h0.ro
 next:h0.next<=h.next
 nA:∀x,x∈A->x.g'.next<=h.next
 wf:WF h
 told:∀A1 r A2,A=A1++r::A2->Told P ops s0 h0 A1 r
 Vr:∀A1 r A2,A=A1++r::A2->∀e,e∈r.o.after->Region.binds .any e=true->∃x,x∈A1/\x.j=e.on
 apart:∀A1 x A2 y A3,A=A1++x::(A2++y::A3)->Prec ops x.j y.j\/lI ops x y
theorem Mf{rec:Xo}(S:Sound P rec)(hF:Frames rec)(hC:Yl P cls=true){ops:Array Oper}{s0:Env}{h0:za}{A:List yz}{recs:List lH}{i mask:Nat}{o:Oper}{os:List Oper}{s:Env}{h h1:za}{y:lH}
  (F:vB P ops s0 h0 A i s h) (ho:ops[i]? = some o) (hput:∀d,o.dst=some d->d<s.size) (he:pr P cls rec ops recs mask i os o s h=some (y,h1)) :
  y.r.j=i/\y.r.o=o/\FOk y/\Told P ops s0 h0 A y.r/\(∀b,h1.get b=if y.r.tc b=true then y.r.g'.get b else h.get b)/\h1.ro=h.ro/\h.next<=h1.next/\y.r.g'.next<=h1.next/\WF h1:=by
 unfold pr at he;cases hw:yw ops s o with
 |false=>
  rw[hw]at he;simp only[aaH,aab,aaf]at he;obtain⟨rfl,rfl⟩:=he;refine⟨rfl,rfl,⟨λ_ b=>by simp,λ_ _ _=>trivial,λ_=>⟨λ_=>rfl,λ_=>rfl⟩,λ_ b hb=>(by cases hb)⟩,⟨ho,F.env,F.size,λb=>by rw[ux];simp,F.ro,F.next,F.nA,aaj _,.inl ⟨hw,rfl,rfl⟩,λd hd=>by rw[<- F.size];exact hput d hd,λb hb=>(by cases hb),λb _=>rfl,λb o' hb=>(by cases hb)⟩,λb=>by simp,rfl,aaj _,aaj _,F.wf⟩
 |true=>
  rw[hw]at he;simp only[aaw]at he;split at he
  ·
   rename_i f args ts yj;split at he
   case h_2=>cases he
   rename_i g fa fc vs hf hargs;split at he
   ·
    rename_i hk
    have hlt:∀b,b∈(((recs.flatMap λx=>cond (mask.testBit x.r.j) [] (x.FL++x.rdl))++eJ s ((o::os).filterMap (·.dst)) os (i+1) (1 <<< i)).filter λb=>Nat.blt b h.next)->b<h.next:=λb hb=>by
     simpa [aaN] using(abP.1 hb).2
    generalize (((recs.flatMap λx=>cond (mask.testBit x.r.j) [] (x.FL++x.rdl))++eJ s ((o::os).filterMap (·.dst)) os (i+1) (1 <<< i)).filter λb=>Nat.blt b h.next)=hid at *
    split at he
    case h_2=>cases he
    rename_i v h' hrec;simp only[aab,aaf]at he;obtain⟨rfl,rfl⟩:=he;have af:=hF _ _ _ _ hrec
    have hwfh:WF (h.Xe hid):=λb o' hb=>by
     rw[uT]at hb;split at hb
     ·cases hb
     ·exact F.wf b o' hb
    have hwf:=hwfh.af af;have hn:h.next<=h'.next:=af.next
    have hgone:∀b,b∈hid->h'.get b=none:=by
     intro b hb;cases hh:h'.get b with
     |none=>rfl
     |some o'=>
      rcases af.alive b o' hh with h2|⟨h2,_⟩
      ·rw[uT,aah hb]at h2;exact absurd rfl h2
      ·have:h.next<=b:=h2;have:=hlt b hb;omega
    have hbeyond:∀b,¬b<h'.next->h'.get b=none/\h.get b=none:=by
     intro b hb;refine⟨?_,?_⟩
     ·cases hh:h'.get b with|none=>rfl|some o'=>exact absurd (hwf b o' hh) hb
     ·cases hh:h.get b with|none=>rfl|some o'=>exact absurd (aap (F.wf b o' hh) hn) hb
    refine⟨rfl,rfl,⟨λha=>(by cases ha),λ_ _ _=>trivial,λhl=>(by cases hl),λhl=>(by cases hl)⟩,⟨ho,F.env,F.size,λb=>?_,F.ro,F.next,F.nA,hn,.inr ⟨hw,.inr (.inl ⟨f,args,ts,g,fa,fc,vs,yj,hf,hargs,ZH hC hk,S.call _ _ _ _ _ hrec⟩)⟩,λd hd=>by rw[<- F.size];exact hput d hd,λb hb=>?_,λb hb=>?_,λb o' _ hlt2 hb=>?_⟩,λb=>?_,af.ro,hn,aaj _,?_⟩
    ·rw[uT];simp only[aac,aaN,aao,aaE,aam];by_cases hm:b∈hid
     ·rw[aah hm,aae (λhc=>hc.2 hm)]
     ·rw[aae hm];by_cases hb:b<h.next
      ·rw[aah ⟨hb,hm⟩];exact F.heap b
      ·rw[aae (λhc=>hb hc.1)];cases hh:h.get b with
       |none=>rfl
       |some o'=>exact absurd (F.wf b o' hh) hb
    ·simp only[aac,aaN,aao,aaE,aam]at hb ⊢;by_cases hb2:b<h.next
     ·exact .inl ⟨hb2,hb.2⟩
     ·exact .inr ⟨abT hb2,hb.1⟩
    ·show h'.get b=(h.Xe hid).get b;rw[uT];by_cases hm:b∈hid
     ·rw[aah hm,hgone b hm]
     ·rw[aae hm]
      have hb':¬b<h'.next:=by
       intro hc;have h3:(Nat.blt b h'.next && !hid.contains b)=true:=by simpa [aaN] using⟨hc,hm⟩
       exact ab7 ((show(Nat.blt b h'.next && !hid.contains b)=false from hb).symm.trans h3)
      rw[(hbeyond b hb').1,(hbeyond b hb').2]
    ·rcases af.alive b o' hb with h2|⟨h2,_⟩
     ·exact h2
     ·exact absurd hlt2 (by show ¬b<(h.Xe hid).next;omega)
    ·rw[ZK];simp only[aac,aaN,aao,aaE,aam];by_cases hm:b∈hid
     ·rw[aah hm,aae (λhc=>hc.2 hm)]
     ·rw[aae hm];by_cases hb:b<h'.next
      ·rw[aah ⟨hb,hm⟩]
      ·rw[aae (λhc=>hb hc.1),(hbeyond b hb).1,(hbeyond b hb).2]
    ·intro b o' hb;rw[ZK]at hb;show b<h'.next;split at hb
     ·exact aap (F.wf b o' hb) hn
     ·exact hwf b o' hb
   ·
    rename_i hk;split at he
    case h_2=>cases he
    rename_i v h2 hrec;obtain⟨hsc,he⟩:=zq he;simp only[aab,aaf]at he;obtain⟨rfl,rfl⟩:=he;generalize (recs.flatMap λx=>cond (mask.testBit x.r.j) [] x.FL)=hid at *
    have hq:TC P g (fa.toList++vs++fc.toList) (h.Xe hid) (λv1 h1=>v1=v/\h1=h.Xe hid) :=
     ((S.call _ _ _ _ _ hrec).quiet (λv2 h2 q=>by rw[q.1];exact hsc)).mono (by rintro v2 h3 ⟨⟨h4,q1,q2⟩,rfl⟩;exact⟨q1,rfl⟩)
    refine⟨rfl,rfl,⟨λ_ b=>by simp,λ_ _ _=>trivial,λhl=>(by cases hl),λhl=>(by cases hl)⟩,⟨ho,F.env,F.size,λb=>?_,F.ro,F.next,F.nA,aaj _,.inr ⟨hw,.inr (.inl ⟨f,args,ts,g,fa,fc,vs,yj,hf,hargs,ZH hC hk,hq⟩)⟩,λd hd=>by rw[<- F.size];exact hput d hd,λb hb=>(by cases hb),λb _=>rfl,λb o' hb=>(by cases hb)⟩,λb=>by simp,rfl,aaj _,aaj _,F.wf⟩;rw[uT];simp only[aac,aaN,aao,aaE,aam];by_cases hm:b∈hid
    ·rw[aah hm,aae (λhc=>hc.2 hm)]
    ·rw[aae hm];by_cases hb:b<h.next
     ·rw[aah ⟨hb,hm⟩];exact F.heap b
     ·rw[aae (λhc=>hb hc.1)];cases hh:h.get b with
      |none=>rfl
      |some o'=>exact absurd (F.wf b o' hh) hb
   ·
    rename_i hk;split at he
    case h_2=>cases he
    rename_i v h2 hrec;simp only[aab,aaf]at he;obtain⟨rfl,rfl⟩:=he;generalize (recs.flatMap λx=>cond (mask.testBit x.r.j) [] x.FL)=hid at *
    have af:=(hF _ _ _ _ hrec).lock;have hn:h.next<=h2.next:=af.1;refine⟨rfl,rfl,⟨λ_ b=>by simp,λ_ _ _=>trivial,λhl=>(by cases hl),λhl=>(by cases hl)⟩,⟨ho,F.env,F.size,λb=>?_,F.ro,F.next,F.nA,hn,.inr ⟨hw,.inr (.inl ⟨f,args,ts,g,fa,fc,vs,yj,hf,hargs,ZH hC hk,(S.call _ _ _ _ _ hrec).fresh⟩)⟩,λd hd=>by rw[<- F.size];exact hput d hd,λb hb=>?_,λb hb=>?_,λb o' hb hlt _=>?_⟩,λb=>?_,rfl,hn,aaj _,F.wf.af (.vE hn)⟩
    ·rw[uT];simp only[aac,aaN,aao,aaE,aam];by_cases hm:b∈hid
     ·rw[aah hm,aae (λhc=>hc.2 hm)]
     ·rw[aae hm];by_cases hb:b<h.next
      ·rw[aah ⟨hb,hm⟩];exact F.heap b
      ·rw[aae (λhc=>hb hc.1)];cases hh:h.get b with
       |none=>rfl
       |some o'=>exact absurd (F.wf b o' hh) hb
    ·simp only[aaE,aaG,Zk]at hb;exact .inr hb
    ·simp only[aaE,aam,Zk]at hb;simp only[wU];rw[aae (show ¬((h.Xe hid).next<=b/\b<h2.next) from hb)]
    ·simp only[aaE,aaG,Zk]at hb;exact absurd hlt (by show ¬b<h.next;omega)
    ·simp only[aaE,aaG,Zk,wU];by_cases hb:h.next<=b/\b<h2.next
     ·rw[aah hb,aah hb,aah (show(h.Xe hid).next<=b/\b<h2.next from hb)]
     ·rw[aae hb,aae hb]
   ·
    split at he
    case h_2=>cases he
    rename_i v g' hop2;simp only[aab,aaf]at he;obtain⟨rfl,rfl⟩:=he;have still:=Xz hop2;have af:=still.af;have hn:h.next<=g'.next:=af.next;have hro:g'.ro=h.ro:=af.ro;refine⟨rfl,rfl,⟨λ_ b=>by simp,λ_ _ _=>trivial,λhl=>?_,λ_ b hb=>(by cases hb)⟩,⟨ho,F.env,F.size,λb=>by rw[ux];simp,F.ro,F.next,F.nA,hn,.inr ⟨hw,.inr (.inr ⟨f,args,ts,g,fa,fc,vs,yj,hf,hargs,hop2⟩)⟩,λd hd=>by rw[<- F.size];exact hput d hd,λb hb=>?_,λb hb=>?_,λb o' hb hlt hg=>?_⟩,λb=>?_,rfl,hn,aaj _,?_⟩
    ·simp only[List.isEmpty_iff]at hl;refine⟨λb=>rfl,λb=>?_⟩;show(List.range' h.next (g'.next-h.next)).contains b=false;rw[hl];rfl
    ·simp only[aaE,aaG,Zk]at hb;exact .inr hb
    ·simp only[aaE,aam,Zk]at hb;rcases still with e|⟨ob,e⟩
     ·rw[e]
     ·rw[e,za.vJ];split
      ·rename_i eb;exact absurd ⟨by rw[eb];exact aaj _,by rw[eb,e];exact aa6 _⟩ hb
      ·rfl
    ·simp only[aaE,aaG,Zk]at hb;exact absurd hlt (by show ¬b<h.next;omega)
    ·rw[Jt];simp only[aaE,aaG]
    ·intro b o' hb;rw[Jt]at hb;split at hb
     ·rename_i hm;exact(Zk.1 hm).2
     ·exact aap (F.wf b o' hb) hn
  ·
   rename_i hnc;split at he
   case h_2=>cases he
   rename_i v g' yj;simp only[aab,aaf]at he;obtain⟨rfl,rfl⟩:=he;obtain⟨af,still⟩:=Z2 yj;generalize hbs:PC s o h=bs at *
   have hn:h.next<=g'.next:=af.next
   have hmemtc:∀b,b∈(cond (XT o.op) (bs++List.range' h.next (g'.next-h.next)) (List.range' h.next (g'.next-h.next))) ↔ (XT o.op=true/\b∈bs)\/(h.next<=b/\b<g'.next):=by
    intro b;cases XT o.op with
    |true=>simp only[aaw,aaD,Zk,true_and]
    |false=>simp only[aaH,Zk,abh,false_and,false_or]
   generalize htcl:(cond (XT o.op) (bs++List.range' h.next (g'.next-h.next)) (List.range' h.next (g'.next-h.next)))=FL at *
   have hnew:∀b,¬(h.next<=b/\b<g'.next)->b∉bs\/XT o.op=false->g'.get b=(h.pick bs).get b:=by
    intro b hb hor;cases hwr:XT o.op with
    |false=>
     rcases still hwr with e|⟨ob,e⟩
     ·rw[e]
     ·rw[e,za.vJ];split
      ·rename_i eb;exact absurd ⟨by rw[eb];exact aaj _,by rw[eb,e];exact aa6 _⟩ hb
      ·rfl
    |true=>
     rcases hor with hor|hor
     ·have e0:(h.pick bs).get b=none:=(by rw[ux,aae hor]);rw[e0];cases hh:g'.get b with
      |none=>rfl
      |some o'=>
       rcases af.alive b o' hh with h2|h2
       ·exact absurd e0 h2
       ·exact absurd h2 hb
     ·rw[hwr]at hor;cases hor
   have hro:g'.ro=h.ro:=af.ro;refine⟨rfl,rfl,⟨λ_ b=>by simp,λ_ _ _=>trivial,λhl=>?_,λ_ b hb=>by simpa using hb⟩,⟨ho,F.env,F.size,λb=>?_,F.ro,F.next,F.nA,hn,.inr ⟨hw,.inl yj⟩,λd hd=>by rw[<- F.size];exact hput d hd,λb hb=>?_,λb hb=>?_,λb o' hb hlt hg=>?_⟩,λb=>?_,rfl,hn,aaj _,?_⟩
   ·simp only[aac,List.isEmpty_iff]at hl;obtain⟨e1,e2⟩:=hl;subst e1 e2;exact⟨λb=>rfl,λb=>rfl⟩
   ·rw[ux];simp only[aaE,aaG];split
    ·exact F.heap b
    ·rfl
   ·simp only[aaE,aaG]at hb ⊢;rcases (hmemtc b).1 hb with h2|h2
    ·exact .inl h2.2
    ·exact .inr h2
   ·simp only[aaE,aam]at hb;have hb2:=λhc=>hb ((hmemtc b).2 hc);refine hnew b (λhc=>hb2 (.inr hc)) ?_;cases hwr:XT o.op with
    |false=>exact .inr rfl
    |true=>exact .inl (λhc=>hb2 (.inl ⟨hwr,hc⟩))
   ·rcases af.alive b o' hg with h2|⟨h2,_⟩
    ·exact h2
    ·exact absurd hlt (by show ¬b<(h.pick bs).next;omega)
   ·rw[Jt];simp only[aaE,aaG]
   ·intro b o' hb;rw[Jt]at hb;split at hb
    ·rcases af.alive b o' hb with h2|⟨_,h2⟩
     ·rw[ux]at h2;split at h2
      ·obtain⟨o2,ho2⟩:∃o,h.get b=some o:=by cases hh:h.get b with|none=>exact absurd hh h2|some o=>exact⟨o,rfl⟩
       exact aap (F.wf b o2 ho2) hn
      ·exact absurd rfl h2
     ·exact h2
    ·exact aap (F.wf b o' hb) hn
end
noncomputable section
variable {P:Program}{cls:List Nat}
theorem vN{α:Type}{A A1 A2:List α}{y r:α}(e:A++[y]=A1++r::A2):(A2=[]/\A1=A/\r=y) \/ ∃A3,A2=A3++[y]/\A=A1++r::A3:=by
 rcases List.eq_nil_or_concat A2 with h|⟨A3,z,h⟩
 ·subst h;have:=List.append_inj' e rfl;simp at this;exact .inl ⟨rfl,this.1.symm,this.2.symm⟩
 ·subst h;rw[List.concat_eq_append]at *
  have e2:A++[y]=(A1++r::A3)++[z]:=by rw[e];simp
  have:=List.append_inj' e2 rfl;simp at this;exact .inr ⟨A3,by rw[this.2],this.1⟩
theorem Ay{rec:Xo}(S:Sound P rec)(hF:Frames rec)(hC:Yl P cls=true){ops:Array Oper}{s0:Env}{h0:za}:∀(l:List Oper) (i:Nat) (ms:List Nat) (recs:List lH) (s:Env) (h:za) {s':Env} {h':za},
  ops.toList.drop i=l->i<=ops.size->KL ops ms->ms.length=i->vB P ops s0 h0 (recs.map (·.r)).reverse i s h->(∀x,x∈recs->FOk x)->ZQ ops l i ms (recs.map λx=>(x.r.j,x.r.o))=true->Q2 P cls rec ops l i ms recs s h=some (s',h') ->
  ∃A,vB P ops s0 h0 A ops.size s' h'
 |[],i,ms,recs,s,h,s',h',hl,hle,hm,hml,F,hok,hst,he=>by
  simp only[Q2,aab,aaf]at he;obtain⟨rfl,rfl⟩:=he
  have:i=ops.size:=by
   have:=congrArg List.length hl;simp at this;omega
  subst this;exact⟨_,F⟩
 |o::os,i,ms,recs,s,h,s',h',hl,hle,hm,hml,F,hok,hst,he=>by
  have ho:ops[i]? = some o:=by
   have:=congrArg (λl=>l[0]?) hl;simp only[aaQ,aaC]at this;simpa using this
  have hlt:i<ops.size:=by
   rcases aaI i ops.size with h|h
   ·exact h
   ·rw[aaJ h]at ho;cases ho
  have hl':ops.toList.drop (i+1)=os:=by rw[<- acm,hl];rfl
  simp only[Q2]at he;simp only[ZQ,aac]at hst;obtain⟨⟨hedge,hslots⟩,hst⟩:=hst;split at he
  case h_2=>cases he
  rename_i y h1 yj;obtain⟨hind,he⟩:=zq he;split at he
  case h_2=>cases he
  rename_i s1 hp
  have hput:∀d,o.dst=some d->d<s.size:=by
   intro d hd;rw[hd]at hp;simp only[Env.put]at hp;obtain⟨hb,_⟩:=zq hp;simpa [aaN] using hb
  obtain⟨hj,hyo,hfok,htold,hheap,hro,hnx,hyn,hwf⟩:=Mf S hF hC F ho hput yj
  have hs1:∀t,s1.get t=if o.dst=some t then y.r.v else s.get t:=by
   intro t;cases hd:o.dst with
   |none=>rw[hd]at hp;simp only[Env.put,aab]at hp;subst hp;simp
   |some d=>
    rw[hd]at hp;simp only[Env.put]at hp;obtain⟨_,hp⟩:=zq hp;simp only[aab]at hp;subst hp;rw[Env.yq];by_cases e:t=d
    ·subst e;simp
    ·rw[aae e,aae (by simp only[aab];exact λh=>e h.symm)]
  have hs1s:s1.size=s.size:=by
   cases hd:o.dst with
   |none=>rw[hd]at hp;simp only[Env.put,aab]at hp;subst hp;rfl
   |some d=>
    rw[hd]at hp;simp only[Env.put]at hp;obtain⟨_,hp⟩:=zq hp;simp only[aab]at hp;subst hp;rfl
  have hrev:(List.map (·.r) (y::recs)).reverse=(recs.map (·.r)).reverse++[y.r]:=by simp
  refine Ay S hF hC os (i+1) (ms++[yC ms o]) (y::recs) s1 h1 hl' hlt (Wm hm hml ho) (by simp[hml]) ?_ (λx hx=>?_) (by simpa [hj,hyo] using hst) he
  ·rw[hrev];refine⟨?_,?_,hs1s.trans F.size,?_,hro.trans F.ro,aaU F.next hnx,?_,hwf,?_,?_,?_⟩
   ·rw[aaY,F.js,aca];simp[hj]
   ·intro t;rw[hs1,Qd,hyo,F.env]
   ·intro b;rw[hheap,Ju,F.heap]
   ·intro x hx;rcases aaD.1 hx with hx|hx
    ·exact aaU (F.nA x hx) hnx
    ·simp only[aat]at hx;subst hx;exact hyn
   ·intro A1 r A2 e;rcases vN e with⟨_,rfl,rfl⟩|⟨A3,_,e3⟩
    ·exact htold
    ·exact F.told A1 r A3 e3
   ·intro A1 r A2 e ed hed hb;rcases vN e with⟨_,rfl,rfl⟩|⟨A3,_,e3⟩
    ·rw[hyo]at hed;simp only[aav,aaV,aao,aaN]at hedge;rcases hedge ed (by simpa using hed) with h2|h2
     ·rw[hb]at h2;cases h2
     ·have:ed.on∈(recs.map (·.r)).reverse.map (·.j):=(by rw[F.js];exact abj.2 h2);obtain⟨x,hx,hxj⟩:=aa0.1 this;exact⟨x,hx,hxj⟩
    ·exact F.Vr A1 r A3 e3 ed hed hb
   ·intro A1 x A2 z A3 e;have e':(recs.map (·.r)).reverse++[y.r]=(A1++x::A2)++z::A3:=by rw[e];simp
    rcases vN e' with⟨_,e1,rfl⟩|⟨A4,_,e3⟩
    ·have hxm:x∈(recs.map (·.r)).reverse:=(by rw[<- e1];simp);rw[List.mem_reverse,aa0]at hxm;obtain⟨fx,hfx,rfl⟩:=hxm;simp only[aav,aaV]at hind hslots;rcases hslots (fx.r.j,fx.r.o) (aa0.2 ⟨fx,hfx,rfl⟩) with h2|h2
     ·rw[hj];exact .inl (u0 hm ho h2)
     ·rw[<- hyo]at h2;rcases hind with h3|h3
      ·exact .inr (IE (hok fx hfx) hfok h2 (.inl h3))
      ·rcases h3 fx hfx with h4|h4
       ·exact .inr (IE (hok fx hfx) hfok h2 (.inr h4))
       ·rw[hj];exact .inl (u0 hm ho h4)
    ·exact F.apart A1 x A2 z A4 (by rw[e3];simp)
  ·rcases aaz.1 hx with rfl|hx
   ·exact hfok
   ·exact hok x hx
theorem Gz{rec:Xo}(S:Sound P rec)(hF:Frames rec)(hC:Yl P cls=true)(hmix:P.follows .mixedOrders=true){rd:Option Nat}{id:Nat}{ops:Array Oper}{s s':Env}{h h':za}
  (hst:ZQ ops ops.toList 0 [] []=true) (he:Q2 P cls rec ops ops.toList 0 [] [] s h=some (s',h')):T P rd (.region id ops true) s h (λe1 s1 h1=>e1=.normal/\s1=s'/\h1=h'):=by
 intro ρ w tm ds hr
 have F0:vB P ops s h ([]:List yz) 0 s h:=⟨rfl,λt=>rfl,rfl,λb=>rfl,rfl,aaj _,λx hx=>(by cases hx),λb o hb=>hr.KJ b o hb,
  λA1 r A2 e=>by simp at e,λA1 r A2 e=>by simp at e,λA1 x A2 y A3 e=>by simp at e⟩
 obtain⟨A,F⟩:=Ay S hF hC ops.toList 0 [] [] s h rfl (aaS _) (λk q hq=>by simp at hq) rfl F0 (λx hx=>(by cases hx)) hst he
 have V:Valid P ops s h A:=⟨by rw[F.js];exact acv,λi hi=>by
   have:i∈A.map (·.j):=by rw[F.js];exact abj.2 hi
   obtain⟨r,hr,hj⟩:=aa0.1 this;exact⟨r,hr,hj⟩,F.told,F.Vr,F.apart⟩
 exact WE hmix V F.env F.size F.heap F.ro F.next F.nA ⟨rfl,rfl,rfl⟩ ρ w tm ds hr
theorem Oq{rec:Xo}(hF:Frames rec){g:FuncId}{args:List aaa}{h h':za}{v:aaa}(he:Em cls rec g args h=some (v,h')):AF h h':=by
 unfold Em at he;split at he
 ·split at he
  ·rename_i hrec;simp only[aab,aaf]at he;obtain⟨_,rfl⟩:=he;exact hF _ _ _ _ hrec
  ·cases he
 ·split at he
  ·obtain⟨_,he⟩:=zq he;simp only[aab,aaf]at he;obtain⟨_,rfl⟩:=he;exact .refl _
  ·cases he
 ·split at he
  ·rename_i hrec;simp only[aab,aaf]at he;obtain⟨_,rfl⟩:=he;exact .vE (hF _ _ _ _ hrec).lock.1
  ·cases he
 ·cases he
theorem MV{rec:Xo}(hF:Frames rec){L:Nat}{args:List aaa}{h h':za}{v:aaa}(he:rK rec L args h=some (v,h')):AF h h':=by
 unfold rK at he;split at he
 case h_2=>cases he
 rename_i A hg;split at he
 case h_2=>cases he
 split at he
 case h_2=>cases he
 rename_i s1 h1 hrec;split at he
 case h_2=>cases he
 rename_i A1 g1;obtain⟨_,he⟩:=zq he;split at he
 case h_2=>cases he
 rename_i e s2 h2 hrec2;split at he
 case h_2=>cases he
 rename_i A2 g2;obtain⟨_,he⟩:=zq he;simp only[aab,aaf]at he;obtain⟨rfl,rfl⟩:=he;exact(((hF _ _ _ _ hrec).trans (.UJ g1 _)).trans (hF _ _ _ _ hrec2)).trans (.UJ g2 _)
theorem MS{rec:Xo}(hF:Frames rec){rd:Option Nat}{f:Option aaa}{params:Array Tmp}{as bd:Code}{s:Env}{h h':za}{e:Ex}(he:rH cls rec rd f params as bd s h=some (e,h')):AF h h':=by
 unfold rH at he;split at he
 case h_2=>cases he
 obtain⟨_,he⟩:=zq he;split at he
 case h_2=>cases he
 rename_i v h1 hrec;split at he
 case h_2=>cases he
 rename_i A hA;obtain⟨_,he⟩:=zq he;split at he
 case h_2=>cases he
 simp only[aab,aaf]at he;obtain⟨_,rfl⟩:=he;exact((AF.push _ _).trans (hF _ _ _ _ hrec)).trans (.UJ hA _)
theorem Mi{rec:Xo}(hF:Frames rec){s:Env}{o:Oper}{h h':za}{v:aaa}(he:evalOp P cls rec s o h=some (v,h')):AF h h':=by
 unfold evalOp at he;split at he
 ·split at he
  ·rename_i g fa fc vs _ _;cases hk:Nat.beq (cls.getD g 0) 0 with
   |true=>
    rw[hk]at he;simp only[aaw]at he;exact(Xz he).af
   |false=>
    rw[hk]at he;simp only[aaH]at he;exact Oq hF he
  ·obtain⟨_,he⟩:=zq he;exact MV hF he
  ·cases he
 ·exact(Z2 he).1
theorem iy{rec:Xo}(hF:Frames rec){ops:Array Oper}:∀(l:List Oper) {s s':Env} {h h':za},Ki P cls rec ops l s h=some (s',h')->AF h h'
 |[],s,s',h,h',he=>by
  simp only[Ki,aab,aaf]at he;obtain⟨_,rfl⟩:=he;exact .refl _
 |o::os,s,s',h,h',he=>by
  simp only[Ki]at he;cases hw:yw ops s o with
  |false=>
   rw[hw]at he;simp only[aaH]at he;split at he
   ·exact iy hF os he
   ·cases he
  |true=>
   rw[hw]at he;simp only[aaw]at he;split at he
   ·rename_i hev;split at he
    ·exact(Mi hF hev).trans (iy hF os he)
    ·cases he
   ·cases he
theorem H7{h g:za}{l:List Nat}(hn:h.next<=g.next)(hl:∀b,b∈l->∀o,g.get b=some o->h.get b≠none\/(h.next<=b/\b<g.next)):AF h (h.SC g l):=⟨hn,rfl,λb o hb=>by
 rw[Jt]at hb;split at hb
 ·rename_i hm;exact hl b hm o hb
 ·exact .inl (by rw[hb];simp)⟩
theorem Me{rec:Xo}(hF:Frames rec){ops:Array Oper}{recs:List lH}{mask i:Nat}{o:Oper}{os:List Oper}{s:Env}{h h1:za}{y:lH}(he:pr P cls rec ops recs mask i os o s h=some (y,h1)):AF h h1:=by
 unfold pr at he;cases hw:yw ops s o with
 |false=>
  rw[hw]at he;simp only[aaH,aab,aaf]at he;obtain⟨_,rfl⟩:=he;exact .refl _
 |true=>
  rw[hw]at he;simp only[aaw]at he;split at he
  ·split at he
   case h_2=>cases he
   split at he
   ·split at he
    case h_2=>cases he
    rename_i hrec;simp only[aab,aaf]at he;obtain⟨_,rfl⟩:=he;have af:=hF _ _ _ _ hrec;refine⟨af.next,af.ro,λb o' hb=>?_⟩;rw[ZK]at hb;split at hb
    ·exact .inl (by rw[hb];simp)
    ·rcases af.alive b o' hb with h2|h2
     ·rw[uT]at h2;split at h2
      ·exact absurd rfl h2
      ·exact .inl h2
     ·exact .inr h2
   ·split at he
    case h_2=>cases he
    obtain⟨_,he⟩:=zq he;simp only[aab,aaf]at he;obtain⟨_,rfl⟩:=he;exact .refl _
   ·split at he
    case h_2=>cases he
    rename_i hrec;simp only[aab,aaf]at he;obtain⟨_,rfl⟩:=he;have:=(hF _ _ _ _ hrec).lock.1;exact .vE this
   ·split at he
    case h_2=>cases he
    rename_i v g' yj;simp only[aab,aaf]at he;obtain⟨_,rfl⟩:=he;have af:=(Xz yj).af;refine H7 af.next (λb _ o' hb=>?_);rcases af.alive b o' hb with h2|h2
    ·rw[ux]at h2;split at h2
     ·exact .inl h2
     ·exact absurd rfl h2
    ·exact .inr h2
  ·split at he
   case h_2=>cases he
   rename_i v g' yj;simp only[aab,aaf]at he;obtain⟨_,rfl⟩:=he;have af:=(Z2 yj).1;refine H7 af.next (λb _ o' hb=>?_);rcases af.alive b o' hb with h2|h2
   ·rw[ux]at h2;split at h2
    ·exact .inl h2
    ·exact absurd rfl h2
   ·exact .inr h2
theorem Ax{rec:Xo}(hF:Frames rec){ops:Array Oper}:∀(l:List Oper) (i:Nat) (ms:List Nat) (recs:List lH) {s s':Env} {h h':za},Q2 P cls rec ops l i ms recs s h=some (s',h')->AF h h'
 |[],i,ms,recs,s,s',h,h',he=>by
  simp only[Q2,aab,aaf]at he;obtain⟨_,rfl⟩:=he;exact .refl _
 |o::os,i,ms,recs,s,s',h,h',he=>by
  simp only[Q2]at he;split at he
  case h_2=>cases he
  rename_i y h1 yj;obtain⟨_,he⟩:=zq he;split at he
  case h_2=>cases he
  exact(Me hF yj).trans (Ax hF os _ _ _ he)
theorem Ek{rec:Xo}(hF:Frames rec):Frames (body P cls rec):=by
 intro t h o h' he;cases t with
 |call f args=>
  simp only[body]at he;split at he
  case h_1=>cases he
  split at he
  case h_1=>cases he
  split at he
  ·rename_i hrec;split at he
   ·simp only[aab,aaf]at he;obtain⟨_,rfl⟩:=he;exact hF _ _ _ _ hrec
   ·cases he
  ·rename_i hrec;split at he
   ·simp only[aab,aaf]at he;obtain⟨_,rfl⟩:=he;exact hF _ _ _ _ hrec
   ·cases he
  ·cases he
 |code rd c s=>
  cases c <;> simp only[body]at he
  case skip=>simp only[aab,aaf]at he;obtain⟨_,rfl⟩:=he;exact .refl _
  case label=>simp only[aab,aaf]at he;obtain⟨_,rfl⟩:=he;exact .refl _
  case exit=>simp only[aab,aaf]at he;obtain⟨_,rfl⟩:=he;exact .refl _
  case ret=>simp only[aab,aaf]at he;obtain⟨_,rfl⟩:=he;exact .refl _
  case region id ops draw=>
   cases draw with
   |true=>
    simp only[aaw]at he;obtain⟨_,he⟩:=zq he;split at he
    ·rename_i hd;simp only[aab,aaf]at he;obtain⟨_,rfl⟩:=he;exact Ax hF _ _ _ _ hd
    ·cases he
   |false=>
    simp only[aaH]at he;split at he
    ·rename_i hd;simp only[aab,aaf]at he;obtain⟨_,rfl⟩:=he;exact iy hF _ hd
    ·cases he
  case seq a b=>
   split at he
   ·rename_i hrec;exact(hF _ _ _ _ hrec).trans (hF _ _ _ _ he)
   ·exact hF _ _ _ _ he
  case cond x a b=>
   split at he
   ·exact hF _ _ _ _ he
   ·exact hF _ _ _ _ he
   ·cases he
  case block id a=>
   split at he
   ·rename_i id' s1 h1 hrec;cases hb:Nat.beq id' id with
    |true=>rw[hb]at he;simp only[aaw,aab,aaf]at he;obtain⟨_,rfl⟩:=he;exact hF _ _ _ _ hrec
    |false=>rw[hb]at he;simp only[aaH,aab,aaf]at he;obtain⟨_,rfl⟩:=he;exact hF _ _ _ _ hrec
   ·exact hF _ _ _ _ he
  case scope a=>exact hF _ _ _ _ he
  case loop a=>
   split at he
   ·rename_i hrec;exact(hF _ _ _ _ hrec).trans (hF _ _ _ _ he)
   ·exact hF _ _ _ _ he
  case rangeFunc f params as bd=>
   split at he
   ·rename_i hr;simp only[aab,aaf]at he;obtain⟨_,rfl⟩:=he;exact MS hF hr
   ·cases he
  all_goals cases he
theorem Gs{rec:Xo}(S:Sound P rec)(hF:Frames rec)(hC:Yl P cls=true)(hmix:P.follows .mixedOrders=true):Sound P (body P cls rec):=by
 refine⟨?_,?_,?_,?_⟩
 ·intro rd c s h e s' h' he;cases c <;> simp only[body]at he
  case skip=>simp only[aab,aaf,Out.ex.injEq]at he;obtain⟨⟨rfl,rfl⟩,rfl⟩:=he;exact Nr ⟨rfl,rfl,rfl⟩
  case label=>simp only[aab,aaf,Out.ex.injEq]at he;obtain⟨⟨rfl,rfl⟩,rfl⟩:=he;exact Hx ⟨rfl,rfl,rfl⟩
  case exit=>simp only[aab,aaf,Out.ex.injEq]at he;obtain⟨⟨rfl,rfl⟩,rfl⟩:=he;exact Nq ⟨rfl,rfl,rfl⟩
  case ret=>simp only[aab,aaf,Out.ex.injEq]at he;obtain⟨⟨rfl,rfl⟩,rfl⟩:=he;exact TA ⟨rfl,rfl,rfl⟩
  case region id ops draw=>
   cases draw with
   |true=>
    simp only[aaw]at he;obtain⟨hst,he⟩:=zq he;split at he
    ·rename_i hd;simp only[aab,aaf,Out.ex.injEq]at he;obtain⟨⟨rfl,rfl⟩,rfl⟩:=he;exact Gz S hF hC hmix hst hd
    ·cases he
   |false=>
    simp only[aaH]at he;split at he
    ·rename_i hd;simp only[aab,aaf,Out.ex.injEq]at he;obtain⟨⟨rfl,rfl⟩,rfl⟩:=he;refine CN ?_;have:=Kj S hC ops.toList 0 rfl hd;rw[abp,<- List.range_eq_range']at this;intro ρ w tm ds hr hs b k cs;obtain⟨s1,h1,ρ1,w1,tm1,⟨q1,q2⟩,r⟩:=this ρ w tm ds hr hs b k cs;exact⟨s1,h1,ρ1,w1,tm1,⟨rfl,q1,q2⟩,r⟩
    ·cases he
  case seq a b=>
   refine Hz ?_;split at he
   ·rename_i s1 h1 hrec;refine(S.code _ _ _ _ _ _ _ hrec).mono ?_;rintro e1 s2 h2 ⟨rfl,rfl,rfl⟩;exact S.code _ _ _ _ _ _ _ he
   ·rename_i hne;refine(S.code _ _ _ _ _ _ _ he).mono ?_;rintro e1 s2 h2 ⟨rfl,rfl,rfl⟩;cases e1 with
    |normal=>exact(hne _ _ he).elim
    |exit id=>exact⟨rfl,rfl,rfl⟩
    |ret=>exact⟨rfl,rfl,rfl⟩
  case cond x a b=>
   split at he
   ·rename_i hx;exact Bf hx (by rw[aah rfl];exact S.code _ _ _ _ _ _ _ he)
   ·rename_i hx;exact Bf hx (by rw[aae (by decide)];exact S.code _ _ _ _ _ _ _ he)
   ·cases he
  case block id a=>
   refine dq ?_;split at he
   ·rename_i id' s1 h1 hrec;refine(S.code _ _ _ _ _ _ _ hrec).mono ?_;rintro e1 s2 h2 ⟨rfl,rfl,rfl⟩;cases hb:Nat.beq id' id with
    |true=>
     rw[hb]at he;simp only[aaw,aab,aaf,Out.ex.injEq]at he;obtain⟨⟨rfl,rfl⟩,rfl⟩:=he;rw[aal hb,aah rfl];exact⟨rfl,rfl,rfl⟩
    |false=>
     rw[hb]at he;simp only[aaH,aab,aaf,Out.ex.injEq]at he;obtain⟨⟨rfl,rfl⟩,rfl⟩:=he
     rw[aae (by
      intro hc;cases hc;rw[ab5]at hb;cases hb)]
     exact⟨rfl,rfl,rfl⟩
   ·rename_i hne;refine(S.code _ _ _ _ _ _ _ he).mono ?_;rintro e1 s2 h2 ⟨rfl,rfl,rfl⟩;cases e1 with
    |normal=>rw[aae (by simp)];exact⟨rfl,rfl,rfl⟩
    |exit id'=>exact(hne _ _ _ he).elim
    |ret=>rw[aae (by simp)];exact⟨rfl,rfl,rfl⟩
  case scope a=>exact Hy (S.code _ _ _ _ _ _ _ he)
  case loop a=>
   refine VR ?_;split at he
   ·rename_i s1 h1 hrec;refine(S.code _ _ _ _ _ _ _ hrec).mono ?_;rintro e1 s2 h2 ⟨rfl,rfl,rfl⟩;exact S.code _ _ _ _ _ _ _ he
   ·rename_i hne;refine(S.code _ _ _ _ _ _ _ he).mono ?_;rintro e1 s2 h2 ⟨rfl,rfl,rfl⟩;cases e1 with
    |normal=>exact(hne _ _ he).elim
    |exit id=>exact⟨rfl,rfl,rfl⟩
    |ret=>exact⟨rfl,rfl,rfl⟩
  case rangeFunc f params as bd=>
   split at he
   ·rename_i hr;simp only[aab,aaf,Out.ex.injEq]at he;obtain⟨⟨rfl,rfl⟩,rfl⟩:=he;exact Co S hC hr
   ·cases he
  all_goals cases he
 ·intro f args h v h' he;simp only[body]at he;split at he
  case h_1=>cases he
  rename_i fn hfn;split at he
  case h_1=>cases he
  rename_i c hc
  have fin:∀e s1 h1,(e=.normal\/e=.ret)->rec (.code none c (Env.enter args fn.ntmps)) h=some (.ex e s1,h1)->(match qJ P s1 h1 fn.results.toList with|some vs=>some (Out.val (xV vs),h1)|none=>none)=some (.val v,h') ->
    TC P f args h (λv1 h1=>v1=v/\h1=h'):=by
   intro e s1 h1 hee hrec hres;split at hres
   ·rename_i vs hvs;simp only[aab,aaf,Out.val.injEq]at hres;obtain⟨rfl,rfl⟩:=hres;refine Ht hfn hc ((S.code _ _ _ _ _ _ _ hrec).mono ?_);rintro e1 s2 h2 ⟨rfl,rfl,rfl⟩;exact⟨hee,vs,hvs,rfl,rfl⟩
   ·cases hres
  split at he
  ·rename_i s1 h1 hrec;exact fin _ s1 h1 (.inl rfl) hrec he
  ·rename_i s1 h1 hrec;exact fin _ s1 h1 (.inr rfl) hrec he
  ·cases he
 ·intro rd c s h o h' he;cases c <;> simp only[body]at he
  case skip=>simp only[aab,aaf]at he;obtain⟨rfl,_⟩:=he;exact⟨_,_,rfl⟩
  case label=>simp only[aab,aaf]at he;obtain⟨rfl,_⟩:=he;exact⟨_,_,rfl⟩
  case exit=>simp only[aab,aaf]at he;obtain⟨rfl,_⟩:=he;exact⟨_,_,rfl⟩
  case ret=>simp only[aab,aaf]at he;obtain⟨rfl,_⟩:=he;exact⟨_,_,rfl⟩
  case region id ops draw=>
   cases draw with
   |true=>
    simp only[aaw]at he;obtain⟨_,he⟩:=zq he;split at he
    ·simp only[aab,aaf]at he;obtain⟨rfl,_⟩:=he;exact⟨_,_,rfl⟩
    ·cases he
   |false=>
    simp only[aaH]at he;split at he
    ·simp only[aab,aaf]at he;obtain⟨rfl,_⟩:=he;exact⟨_,_,rfl⟩
    ·cases he
  case seq a b=>
   split at he
   ·exact S.kind _ _ _ _ _ _ he
   ·exact S.kind _ _ _ _ _ _ he
  case cond x a b=>
   split at he
   ·exact S.kind _ _ _ _ _ _ he
   ·exact S.kind _ _ _ _ _ _ he
   ·cases he
  case block id a=>
   split at he
   ·rename_i id' s1 h1 hrec;cases hb:Nat.beq id' id with
    |true=>rw[hb]at he;simp only[aaw,aab,aaf]at he;obtain⟨rfl,_⟩:=he;exact⟨_,_,rfl⟩
    |false=>rw[hb]at he;simp only[aaH,aab,aaf]at he;obtain⟨rfl,_⟩:=he;exact⟨_,_,rfl⟩
   ·exact S.kind _ _ _ _ _ _ he
  case scope a=>exact S.kind _ _ _ _ _ _ he
  case loop a=>
   split at he
   ·exact S.kind _ _ _ _ _ _ he
   ·exact S.kind _ _ _ _ _ _ he
  case rangeFunc f params as bd=>
   split at he
   ·simp only[aab,aaf]at he;obtain⟨rfl,_⟩:=he;exact⟨_,_,rfl⟩
   ·cases he
  all_goals cases he
 ·intro f args h o h' he;simp only[body]at he;split at he
  case h_1=>cases he
  split at he
  case h_1=>cases he
  split at he
  ·split at he
   ·simp only[aab,aaf]at he;obtain⟨rfl,_⟩:=he;exact⟨_,rfl⟩
   ·cases he
  ·split at he
   ·simp only[aab,aaf]at he;obtain⟨rfl,_⟩:=he;exact⟨_,rfl⟩
   ·cases he
  ·cases he
theorem Fy(hC:Yl P cls=true)(hmix:P.follows .mixedOrders=true):∀n,Sound P (run P cls n)/\Frames (run P cls n)
 |0=>⟨⟨λrd c s h e s' h' he=>(by cases he),λf args h v h' he=>(by cases he),λrd c s h o h' he=>(by cases he),λf args h o h' he=>(by cases he)⟩,λt h o h' he=>(by cases he)⟩
 |n+1=>by
  obtain⟨S,F⟩:=Fy hC hmix n;exact⟨Gs S F hC hmix,Ek F⟩
theorem Lw(hC:Yl P cls=true)(hmix:P.follows .mixedOrders=true){n:Nat}{f:FuncId}{args:List aaa}{h h':za}{v:aaa}(he:run P cls n (.call f args) h=some (.val v,h')):TC P f args h (λv1 h1=>v1=v/\h1=h') :=
 (Fy hC hmix n).1.call _ _ _ _ _ he
def Cz(n:Nat)(tabs:List (Nat×List aaa)):za:=⟨tabs.foldl (λt x=>t.set x.1 (some (.tab x.2))) .e,n,n⟩
theorem cP{n:Nat}{tabs:List (Nat×List aaa)}{b:Nat}{o:wS}(h:(Cz n tabs).get b=some o):∃c,(b,c)∈tabs/\o=.tab c:=by
 have key:∀(l:List (Nat×List aaa)) (t:Tr wS),(l.foldl (λt x=>t.set x.1 (some (.tab x.2))) t).get b=some o->(∃c,(b,c)∈l/\o=.tab c)\/t.get b=some o:=by
  intro l
  induction l with
  |nil=>intro t h;exact .inr h
  |cons x l ih=>
   intro t h;rw[List.foldl_cons]at h;rcases ih _ h with⟨c,h1,h2⟩|h1
   ·exact .inl ⟨c,by simp[h1],h2⟩
   ·rw[Tr.yq]at h1;split at h1
    ·rename_i e;simp only[aab]at h1;subst e;exact .inl ⟨x.2,by simp,h1.symm⟩
    ·exact .inr h1
 rcases key tabs .e h with h1|h1
 ·exact h1
 ·cases h1
def CJ(w:World)(g:Nat)(c:List aaa):Prop := ∃cs t fz,w.heap[g]? = some (.cells cs t fz) /\ ∀(i:Nat) x,c[i]? = some x->cs[i]? = some x
theorem He(P:Program)(w:World)(n:Nat)(tabs:List (Nat×List aaa))(hn:P.globals.size<=n)(hg:∀x,x∈tabs->x.1<n/\x.2.all flat=true/\CJ w x.1 x.2) :
  Rel P ⟨n,λg=>some ⟨g,0,(match w.heap[g]? with|some (.cells cs _ _)=>cs.size|_=>0),0⟩⟩ (Cz n tabs) w:=by
 refine⟨rfl,aaj _,λb o h=>?_,λb o h=>?_,λb1 b2 o1 o2 p1 p2 h1 h2 m1 m2 e=>?_,hn,λb pl _ h=>?_⟩
 ·obtain⟨c,h1,_⟩:=cP h;exact(hg _ h1).1
 ·obtain⟨c,h1,rfl⟩:=cP h;obtain⟨_,h2,cs,t,fz,h3,h4⟩:=hg _ h1;refine⟨_,rfl,t,cs,fz,h3,by simp only[h3],⟨rfl,Nat.zero_mod _⟩,?_,λe=>(by cases e),λi x hx=>⟨x,by simpa using h4 i x hx,?_⟩⟩
  ·show 0+c.length<=cs.size;rcases aaI cs.size c.length with hl|hl
   ·have h5:=h4 cs.size _ (aag hl);simp at h5
   ·omega
  ·simp only[aav]at h2;exact .of_flat _ (h2 x (aax hx))
 ·simp only[aab]at m1 m2;subst m1 m2;exact e
 ·simp only[aab]at h;subst h;exact⟨rfl,rfl⟩
theorem M0{ρ:xA}{v v':aaa}(hv:iz v=true)(hvr:zG ρ v v'):v'=v:=by
 cases v with
 |tuple a=>
  cases hvr with
  |tuple ha hr=>
   simp only[iz,aav]at hv
   congr 1
   apply ab3;refine pX (by simpa using ha) (λi x y hx hy=>?_);exact kr (hr i x y (by simpa using hx) (by simpa using hy)) (hv x (aax hx))
 |_=>exact kr hvr hv
end
noncomputable section
variable {P:Program}{cls:List Nat}
def seen(k:Nat)(bs:List Nat):Option (Out×za)->Option (List aaa×List (Option wS)×Nat×Nat×Nat)
 |some (.ex .normal s,h)=>some ((List.range k).map s.get,bs.map h.get,s.size,h.next,h.ro)
 |_=>none
end
noncomputable section
variable {P:Program}{cls:List Nat}
end
noncomputable section
open Go.ChangeShapes Go.WideShapes Go.ChangeAt Go.RowKit
variable {P:Program}{H:Type}{enc:TypeId×aaa->H}
theorem post_of_below{f:Func}{s:ChangeSpec}{apart fresh handsOn again:Bool}{W W':World}{args:Array aaa}{v:aaa}{ds gs:List (DataW H)}{before pa pv:List MemPlace}
  (hW:DataW.Whole enc P f.params.toList s.vars apart W args.toList ds gs before)
  (hres:∀(b:Nat) (sp:Nat->Bool) (hd:Bool),DataW.TrodAll enc P W' b sp hd f.resultTypes.toList (v.resultList f.resultTypes.size) (s.fn H (ds++gs)).results [])
  (hargs:∀sp:Nat->Bool,(∀p∈before,sp p.block=true)->DataW.TrodAll enc P W' 0 sp true f.params.toList args.toList (s.fn H (ds++gs)).args pa)
  (hvars:∀sp:Nat->Bool,(∀p∈before,sp p.block=true)->DataW.TrodVars enc P W' sp s.vars (s.fn H (ds++gs)).vars pv)
  (hps:before=pa++pv) (hb:Below W.heap.size W W')
  (hok:∀(j:Nat) (t:TypeId) (r:aaa),f.resultTypes[j]? = some t->(v.resultList f.resultTypes.size)[j]? = some r->Value.okWide P W' .any 0 t r) :
  s.post enc P f apart fresh handsOn again W args v W':=by
 have hold:∀p∈before,(λb=>decide (b<W.heap.size)) p.block=true:=λp hp=>by simpa using hW.lt p hp
 refine⟨ds,gs,before,[],pa,pv,hW,hres _ _ _,hargs _ hold,hvars _ hold,hb.frame _,λ_=>?_⟩;have hlt:∀p∈before,p.block<W.heap.size:=λp hp=>hW.lt p hp;obtain⟨_,_,_,_,_,hz,hn⟩:=hW;refine⟨hok,_,_,([]++pa)++pv,⟨[]++pa,pv,trodAll_append (hargs _ (λ_ _=>rfl)) (hres _ _ _),hvars _ (λ_ _=>rfl),rfl,?_,?_⟩,?_⟩
 ·intro b off hp;have hp':MemPlace.cell b off∈before:=by rw[hps];simpa using hp
  rw[hb.frozen (p:=⟨b,off,none⟩) (hlt _ hp')];exact hz b off hp'
 ·intro ha;have:=hn ha;rw[hps]at this;simpa using this
 ·intro p hp _;rw[hps];simpa using hp
def zbw:Option (Out×za)->Bool
 |some (.val (.bool b),_)=>b
 |_=>false
theorem SO{x:Option (Out×za)}(h:zbw x=true):∃h',x=some (.val (.bool true),h'):=by
 unfold zbw at h;split at h
 ·subst h;exact⟨_,rfl⟩
 ·cases h
end
noncomputable section
variable {P:Program}
theorem FW{f:FuncId}{v:aaa}{m:Nat}{tabs:List (Nat×List aaa)}(hv:iz v=true)(hn:P.globals.size<=m)(hfl:∀x,x∈tabs->x.1<m/\x.1<P.globals.size/\x.2.all flat=true)(ht:TC P f [] (Cz m tabs) (λv1 _=>v1=v)){h:za}
  (hh:∀x,x∈tabs->∃c t,h.get x.1=some (.cells c t) /\ ∀(i:Nat) y,x.2[i]? = some y->c[i]? = some y):TC P f [] h (λv1 h1=>v1=v/\h1=h):=by
 intro ρ w cargs hr hvl
 have hT:∀x,x∈tabs->x.1<m/\x.2.all flat=true/\CJ w x.1 x.2:=by
  intro x hx;obtain⟨f1,f2,f3⟩:=hfl x hx;refine⟨f1,f3,?_⟩;obtain⟨c,t,hc,hce⟩:=hh x hx;obtain⟨pl,hm,cs,fz,h1,h2,h3,h4,h5,h6⟩:=hr.ok x.1 _ hc;obtain⟨g1,g2⟩:=hr.Y0 x.1 pl f2 hm;refine⟨cs,t,fz,by rw[<- g1];exact h1,λi y hy=>?_⟩;obtain⟨z,hz,hzz⟩:=h6 i y (hce i y hy);simp only[g2,abf]at hz;rw[hz];simp only[aav]at f3;rw[kr hzz (f3 y (aax hy))]
 refine(ht _ w cargs (He P w m tabs hn hT) ?_).mono λe w'=>?_
 ·cases hvl.uI;exact .nil _
 rintro⟨v1,v',h1,ρ',rfl,rfl,st,hvr⟩
 have hsame:∀c,c<w.heap.size->w'.heap[c]? = w.heap[c]?:=λc hc=>st.frame c hc (by
  rintro⟨b,o,pl,hb,hro,_⟩;obtain⟨c',hc',_⟩:=cP hb;have h1:=(hfl _ hc').1;have h2:m<=b:=hro;omega)
 exact⟨v1,v',h,ρ,rfl,⟨rfl,rfl⟩,⟨xA.le_refl _,hr.grow hsame,rfl,st.os,st.tape,st.output,st.size,λc hc _=>hsame c hc,λc _ hm=>hm⟩,Lh hvr hv ρ⟩
end
noncomputable section
variable {P:Program}
def NX(n:Nat):aaa->aaa
 | .bool b => .bool b
 | .int k i => .int k i
 | .float k i => .float k i
 | .string s => .string s
 | .pointer none => .pointer none
 | .pointer (some ⟨b,off,none⟩)=>cond (Nat.blt b n) (.pointer (some ⟨b,off,none⟩)) bot
 | .slice none 0 0 => .slice none 0 0
 | .slice (some _) 0 0 => .slice (some ⟨0,0,none⟩) 0 0
 | .slice (some ⟨b,off,none⟩) l c=>cond (Nat.blt b n&&Nat.ble l c) (.slice (some ⟨b,off,none⟩) l 0) bot
 | .nilFunc => .nilFunc
 | .nilIface => .nilIface
 | .map none => .map none
 |_=>bot
def Ho(f:Nat->Option wS):Nat->Tr wS
 |0 => .e
 |n+1=>(Ho f n).set n (f n)
theorem EL(f:Nat->Option wS)(n k:Nat):(Ho f n).get k=if k<n then f k else none:=by
 induction n with
 |zero=>simp[Ho]
 |succ n ih=>
  rw[Ho,Tr.yq,ih];by_cases h:k=n
  ·subst h;rw[aah rfl,aah (by omega)]
  ·rw[aae h];by_cases h2:k<n
   ·rw[aah h2,aah (by omega)]
   ·rw[aae h2,aae (by omega)]
def aQ(P:Program)(w:World):xA:=⟨max w.heap.size P.globals.size+1,λb=>match w.heap[b]? with
 |some (.cells cs t _)=>some ⟨b,0,cs.size,P.cellsOf t⟩
 |_=>some ⟨b,0,0,1⟩⟩
theorem fN(P:Program)(w:World)(b:Nat):∃pl,(aQ P w).m b=some pl/\pl.c=b/\pl.base=0:=by
 unfold aQ;simp only;split
 ·exact⟨_,rfl,rfl,rfl⟩
 ·exact⟨_,rfl,rfl,rfl⟩
theorem NY(P:Program)(w:World){v:aaa}(h:xX v=true):zG (aQ P w) (NX w.heap.size v) v:=by
 have un:(∀b,v ≠ .bool b)->zG (aQ P w) bot v:=λhb => .ry (by
  cases v with
  |bool b=>exact absurd rfl (hb b)
  |agg _=>cases h
  |tuple _=>cases h
  |_=>rfl)
 have lt:∀{b:Nat},Nat.blt b w.heap.size=true->b<(aQ P w).next:=λ{b} hb=>by
  have h1:b<w.heap.size:=by simpa [aaN] using hb
  show b<max w.heap.size P.globals.size+1;omega
 unfold NX;split
 ·exact .bool _
 ·exact .int _ _
 ·exact .float _ _
 ·exact .string _
 ·exact .ptrNil
 ·rename_i b off;cases hb:Nat.blt b w.heap.size with
  |true=>
   obtain⟨pl,hm,hc,h0⟩:=fN P w b;have:=zG.ptr (ρ:=aQ P w) (off:=off) (lt hb) hm;rw[hc,h0,abf]at this;exact this
  |false=>exact un (λb h=>by cases h)
 ·exact .sliceNil _
 ·exact .sliceOut (show 0<max w.heap.size P.globals.size+1 by omega) (by decide)
 ·rename_i b off l c hne;cases hb:Nat.blt b w.heap.size&&Nat.ble l c with
  |true=>
   obtain⟨pl,hm,hc,h0⟩:=fN P w b;simp only[aac]at hb;have:=zG.slice (ρ:=aQ P w) (off:=off) (c:=0) (lt hb.1) hm (aaF hb.2) (λh=>absurd rfl h);rw[hc,h0,abf]at this;exact this
  |false=>exact un (λb h=>by cases h)
 ·exact .nilFunc
 ·exact .nilIface
 ·exact .mapNil
 ·rename_i h1 h2 h3 h4 h5 h6 h7 h8 h9 h10 h11 h12;exact un (λb h=>h1 b h)
theorem Br(P:Program)(w:World):∀v:aaa,∃x,zG (aQ P w) x v
 | .agg a=>by
   have h:∀i:Fin a.size,∃x,zG (aQ P w) x a[i]:=λi=>Br P w a[i];obtain⟨f,hf⟩:=Classical.axiomOfChoice h;refine⟨.agg (Array.ofFn f),.agg (by simp) (λi x y hx hy=>?_)⟩
   have hi:i<a.size:=by
    rcases aaI i a.size with q|q
    ·exact q
    ·rw[aaJ q]at hy;cases hy
   rw[aaL hi]at hy;simp only[aab]at hy;subst hy;rw[aaL (by simpa using hi)]at hx;simp only[aab,Array.getElem_ofFn]at hx;subst hx;exact hf ⟨i,hi⟩
 | .tuple a=>by
   have h:∀i:Fin a.size,∃x,zG (aQ P w) x a[i]:=λi=>Br P w a[i];obtain⟨f,hf⟩:=Classical.axiomOfChoice h;refine⟨.tuple (Array.ofFn f),.tuple (by simp) (λi x y hx hy=>?_)⟩
   have hi:i<a.size:=by
    rcases aaI i a.size with q|q
    ·exact q
    ·rw[aaJ q]at hy;cases hy
   rw[aaL hi]at hy;simp only[aab]at hy;subst hy;rw[aaL (by simpa using hi)]at hx;simp only[aab,Array.getElem_ofFn]at hx;subst hx;exact hf ⟨i,hi⟩
 | .bool b=>⟨_,.bool b⟩
 | .int _ _ | .float _ _ | .complex _ _ _ | .string _ | .pointer _ | .slice _ _ _ | .map _ | .nilFunc | .func _ _ _ | .nilIface | .iface _ _ | .chan _=>⟨bot,.ry rfl⟩
 termination_by v=>SizeOf.sizeOf v
 decreasing_by
  all_goals
   have:=Array.sizeOf_lt_of_mem (Array.getElem_mem i.2);simp only[Value.agg.sizeOf_spec,Value.tuple.sizeOf_spec];simp only[Fin.getElem_fin]at this ⊢;omega
def U1(P:Program)(w:World)(v:aaa):aaa:=if xX v=true then NX w.heap.size v else Classical.choose (Br P w v)
theorem eF(P:Program)(w:World)(v:aaa):zG (aQ P w) (U1 P w v) v:=by
 unfold U1;split
 ·rename_i h;exact NY P w h
 ·exact Classical.choose_spec (Br P w v)
theorem ad{w:World}{v:aaa}(h:xX v=true):U1 P w v=NX w.heap.size v:=aah h
def NW(P:Program)(w:World)(b:Nat):Option wS:=match w.heap[b]? with
 |some (.cells cs t _)=>some (.cells (cs.toList.map (U1 P w)) t)
 |_=>none
def absH(P:Program)(w:World):za:=⟨Ho (NW P w) w.heap.size,max w.heap.size P.globals.size+1,max w.heap.size P.globals.size+1⟩
theorem pH{w:World}{b:Nat}{o:wS}(h:(absH P w).get b=some o):b<w.heap.size /\ ∃cs t fz,w.heap[b]? = some (.cells cs t fz)/\o=.cells (cs.toList.map (U1 P w)) t:=by
 have h2:(Ho (NW P w) w.heap.size).get b=some o:=h;rw[EL]at h2;split at h2
 case isFalse=>cases h2
 rename_i hb;refine⟨hb,?_⟩;unfold NW at h2;split at h2
 ·rename_i cs t fz hw;simp only[aab]at h2;exact⟨cs,t,fz,hw,h2.symm⟩
 ·cases h2
theorem NV{w:World}{b:Nat}{cs:Array aaa}{t:TypeId}{fz:Nat×Nat}(h:w.heap[b]? = some (.cells cs t fz)):(absH P w).get b=some (.cells (cs.toList.map (U1 P w)) t):=by
 have hb:b<w.heap.size:=YX h;show(Ho (NW P w) w.heap.size).get b=_;rw[EL,aah hb];unfold NW;rw[h]
theorem Fs(P:Program)(w:World):Rel P (aQ P w) (absH P w) w:=by
 refine⟨rfl,aaj _,λb o h=>?_,λb o h=>?_,λb1 b2 o1 o2 p1 p2 _ _ h1 h2 e=>?_,abN (Nat.le_max_right _ _),λb pl _ h=>?_⟩
 ·have:=(pH h).1;show b<max w.heap.size P.globals.size+1;omega
 ·obtain⟨hb,cs,t,fz,hw,rfl⟩:=pH h;refine⟨⟨b,0,cs.size,P.cellsOf t⟩,by simp only[aQ,hw],?_⟩;refine⟨cs,fz,hw,rfl,⟨rfl,Nat.zero_mod _⟩,by simp,λhd=>?_,λi x hx=>?_⟩
  ·have hd:max w.heap.size P.globals.size+1<=b:=aa7 hd;omega
  ·simp only[aay,aau]at hx;obtain⟨y,hy,rfl⟩:=hx;exact⟨y,by simpa using hy,eF P w y⟩
 ·obtain⟨q1,a1,b1,c1⟩:=fN P w b1;obtain⟨q2,a2,b2,c2⟩:=fN P w b2;rw[h1]at a1;rw[h2]at a2;cases a1;cases a2;omega
 ·obtain⟨q1,a1,b1,c1⟩:=fN P w b;rw[h]at a1;cases a1;exact⟨b1,c1⟩
theorem Calls_of_TCW{f:FuncId}{args vs:List aaa}{v:aaa}(w:World)(ha:wI (aQ P w) args vs)(hv:iz v=true)(ht:TC P f args (absH P w) (λv1 _=>v1=v)) :
  Calls P f vs.toArray w λe w'=>e=.returned v/\RowKit.Below w.heap.size w w':=by
 refine(ht _ w vs (Fs P w) ha).mono λe w'=>?_;rintro⟨v1,v',h1,ρ',rfl,rfl,st,hvr⟩;refine⟨by rw[M0 hv hvr],st.os,st.tape,st.output,st.size,λk hk=>st.frame k hk ?_⟩;rintro⟨b,o,pl,hb,hro,_⟩;have h1:=(pH hb).1;have h2:max w.heap.size P.globals.size+1<=b:=hro;omega
end
noncomputable section
variable {P:Program}
section
variable {h:za}{t e:TypeId}{cs:List aaa}{k:IntKind}
end
section
variable {H:Type}{enc:TypeId×aaa->H}{w:World}{held:Bool}
theorem NS(k:IntKind)(i:Int):U1 P w (.int k i)=.int k i:=by rw[ad rfl];rfl
theorem LM(b:Bool):U1 P w (.bool b)=.bool b:=by rw[ad rfl];rfl
theorem DW(s:ByteArray):U1 P w (.string s)=.string s:=by rw[ad rfl];rfl
theorem NT:U1 P w (.slice none 0 0)=.slice none 0 0:=by rw[ad rfl];rfl
theorem NU(a:Addr):U1 P w (.slice (some a) 0 0)=.slice (some ⟨0,0,none⟩) 0 0:=by rw[ad rfl];rfl
theorem Gg{b off len cap:Nat}(h0:0<cap)(hl:len<=cap)(hb:b<w.heap.size):U1 P w (.slice (some ⟨b,off,none⟩) len cap)=.slice (some ⟨b,off,none⟩) len 0:=by
 rw[ad rfl];have h1:(Nat.blt b w.heap.size&&Nat.ble len cap)=true:=by simp[aaN,hb,hl]
 obtain⟨c,rfl⟩:∃c,cap=c+1:=⟨cap-1,by omega⟩;simp only[NX,h1,aaw]
theorem Er{base:Nat}{a:Addr}{n:Nat}{l:List aaa}(h:w.cells? base a n=some l)(h0:0<n):∃cs t fz,w.heap[a.block]? = some (.cells cs t fz)/\a.spot=none/\a.off+n<=cs.size/\l=(cs.toList.drop a.off).take n:=by
 obtain⟨_,hl,hc⟩:=World.cells?_some h
 have hat:∀i,i<n->∃cs t fz,w.heap[a.block]? = some (.cells cs t fz)/\(i=0->a.spot=none)/\cs[a.off+i]? = l[i]? /\ a.off+i<cs.size:=by
  intro i hi;have h1:=hc i (by omega);have hb:(a.add i).block=a.block:=by unfold Addr.add;split <;> rfl
  have ho:(a.add i).off=a.off+i:=by unfold Addr.add;split <;> simp_all
  unfold World.cell? at h1;rw[hb,ho]at h1;have hli:∃v,l[i]? = some v:=⟨l[i],aag (by omega)⟩;obtain⟨v,hv⟩:=hli;split at h1
  ·rename_i cs t fz hw;refine⟨cs,t,fz,hw,λe=>?_,?_,?_⟩
   ·subst e;have:a.add 0=a:=by unfold Addr.add;simp
    rw[this]at h1;cases hs:a.spot with
    |none=>rfl
    |some x=>rw[hs]at h1;simp at h1;rw[h1]at hv;cases hv
   ·split at h1
    ·rw[hv]at h1;cases h1
    ·exact h1
   ·split at h1
    ·rw[hv]at h1;cases h1
    ·rw[hv]at h1;rcases aaI (a.off+i) cs.size with q|q
     ·exact q
     ·rw[aaJ q]at h1;cases h1
  ·rw[hv]at h1;cases h1
 obtain⟨cs,t,fz,hw,hs,_⟩:=hat 0 h0;refine⟨cs,t,fz,hw,hs rfl,?_,?_⟩
 ·obtain⟨cs',t',fz',hw',_,_,hlt⟩:=hat (n-1) (by omega);rw[hw]at hw';cases hw';omega
 ·apply abz;intro i;by_cases hi:i<n
  ·obtain⟨cs',t',fz',hw',_,he,_⟩:=hat i hi;rw[hw]at hw';cases hw';rw[<- he,aaW hi,aaQ];simp
  ·rw[aas (by omega),aas (by simp;omega)]
end
end
noncomputable section
variable {P:Program}
def Bq(P:Program)(w:World):aaa->aaa
 | .agg a => .agg (a.map (U1 P w))
 |v=>U1 P w v
theorem NR(P:Program)(w:World)(v:aaa):zG (aQ P w) (Bq P w v) v:=by
 unfold Bq;split
 ·rename_i a;refine .agg (by simp) (λi x y hx hy=>?_);simp only[Array.getElem?_map,hy,abn,aab]at hx;subst hx;exact eF P w y
 ·exact eF P w _
def Kd:aaa->Bool
 | .agg _=>false
 |_=>true
theorem iZ{w:World}{v:aaa}(h:Kd v=true):Kd (U1 P w v)=true:=by
 have:=eF P w v;cases v with
 |agg=>cases h
 |_=>
  generalize U1 P w _=x at this;cases this <;> rfl
theorem Q0{v:aaa}(h:Kd v=true):v.cells.toList=[v]:=by
 cases v <;> first|rfl|cases h
theorem Gf(P:Program)(w:World)(v:aaa):(Bq P w v).cells.toList=v.cells.toList.map (U1 P w):=by
 cases hv:Kd v with
 |false=>cases v <;> first|(simp[Bq,Value.cells];done)|cases hv
 |true=>
  have e:Bq P w v=U1 P w v:=by cases v <;> first|rfl|cases hv
  rw[e,Q0 hv,Q0 (iZ hv)];rfl
theorem DV{w:World}{v:aaa}(h:Kd v=true):Kd (Bq P w v)=true:=by
 have e:Bq P w v=U1 P w v:=by cases v <;> first|rfl|cases h
 rw[e];exact iZ h
def OZ(P:Program)(t:TypeId):Bool:=match P.underlying t with
 |some (.struct _)|some (.array _ _)=>true
 |_=>false
theorem agg_of{a:aaa}{l:List aaa}(h:a.cells.toList=l)(hl:l.length≠1):a=.agg l.toArray:=by
 cases ha:Kd a with
 |true=>rw[Q0 ha]at h;subst h;exact absurd rfl hl
 |false=>
  cases a with
  |agg c=>subst h;rfl
  |_=>cases ha
theorem Ce{w:World}{r:Reach}{base:Nat}{t:TypeId}{v:aaa}(h:Value.okWide P w r base t v)(hr:OZ P t=false):Kd v=true:=by
 cases v with
 |agg c=>
  exfalso;unfold OZ at hr;unfold Value.okWide at h;split at hr
  ·cases hr
  ·cases hr
  ·rename_i n1 n2;split at h
   ·rename_i fs hu;exact n1 _ hu
   ·rename_i m e hu;exact n2 _ _ hu
   ·unfold Cell.okWide at h;split at h <;> first|(rename_i hh;cases hh;done)|skip
    all_goals first
     |(rename_i h2 h3;cases h3;done)
     |skip
    unfold Cell.ok at h;split at h <;> first|exact h|(rename_i h2 h3;cases h3)
 |_=>rfl
section
variable {H:Type}{enc:TypeId×aaa->H}{w:World}{held:Bool}
def kidsOk(P:Program)(l:List TypeId):Bool:=l.all λt=>match P.underlying t with
 |some (.pointer e)=>l.contains e
 |some (.slice e)=>l.contains e&&Nat.blt 0 (P.cellsOf e)
 |some (.array _ _)=>false
 |some (.map _ _)=>false
 |some (.struct fs)=>(fs.toList.all λf=>l.contains f.type)&&Nat.beq (P.cellsOf t) ((fs.toList.map λf=>P.cellsOf f.type).sum)&&(List.range fs.size).all λj=>match fs.toList[j]? with
  |some f=>Nat.beq f.offset ((fs.toList.take j).map λf=>P.cellsOf f.type).sum
  |none=>true
 |_=>true
theorem Sp{l:List TypeId}(h:kidsOk P l=true):Kids P (· ∈ l) /\ ∀{t e:TypeId},t∈l->P.underlying t=some (.slice e)->0<P.cellsOf e:=by
 unfold kidsOk at h;rw[aav]at h;refine⟨⟨λht hu=>?_,λht hu=>?_,λht hu=>?_,λht hu=>?_,λht hu=>?_⟩,λht hu=>?_⟩
 ·have:=h _ ht;rw[hu]at this;simpa using this
 ·have:=h _ ht;rw[hu]at this;simp only[aac]at this;simpa using this.1
 ·have:=h _ ht;rw[hu]at this;cases this
 ·rename_i t fs;have:=h _ ht;rw[hu]at this;simp only[aac,aav]at this;obtain⟨⟨h1,h2⟩,h3⟩:=this;refine⟨λf hf=>by simpa using h1 f hf,aal h2,λj f hj=>?_⟩
  have hlt:j<fs.size:=by
   rcases aaI j fs.toList.length with q|q
   ·simpa using q
   ·rw[aas q]at hj;cases hj
  have:=h3 j (by simpa using hlt);rw[hj]at this;exact aal this
 ·have:=h _ ht;rw[hu]at this;cases this
 ·have:=h _ ht;rw[hu]at this;simp only[aac]at this;simpa [aaN] using this.2
theorem Hh{w w':World}(hb:RowKit.Below w.heap.size w w'){p:MemPlace}(hp:p.block<w.heap.size):w.sameAt w' p:=by
 cases p with
 |cell b off=>
  have hk:=hb.block b hp;show w'.cell? _=w.cell? _;unfold World.cell?;simp only[hk]
 |map b=>exact hb.block b hp
theorem args_stay{l:List TypeId}(hk:kidsOk P l=true){w':World}(hb:RowKit.Below w.heap.size w w'){sp:Nat->Bool}:∀(ts:List TypeId) (vs:List aaa) (ds:List (DataW H)) (p:List MemPlace),DataW.TrodAll enc P w 0 (λ_=>true) true ts vs ds p ->
  (∀t,t∈ts->t∈l)->(∀x,x∈p->x.block<w.heap.size)->(∀x,x∈p->sp x.block=true)->DataW.TrodAll enc P w' 0 sp true ts vs ds p
 |[],[],[],p,h,ht,hl,hs=>h
 |t::ts,v::vs,d::ds,p,h,ht,hl,hs=>by
  obtain⟨p1,q1,⟨n,h1⟩,h2,rfl⟩:=h;obtain⟨K,hsz⟩:=Sp hk;refine⟨p1,q1,⟨n,?_⟩,args_stay hk hb ts vs ds q1 h2 (λt h=>ht t (by simp[h])) (λx hx=>hl x (by simp[hx])) (λx hx=>hs x (by simp[hx])),rfl⟩;exact DataW.trod_stays K hsz (λe=>by cases e) (ht t (by simp)) h1 (λx hx=>Hh hb (hl x (by simp[hx]))) (λx hx=>hs x (by simp[hx]))
 |[],_::_,_,p,h,_,_,_=>by cases h
 |[],[],_::_,p,h,_,_,_=>by cases h
 |_::_,[],_,p,h,_,_,_=>by cases h
 |_::_,_::_,[],p,h,_,_,_=>by cases h
end
end
noncomputable section
variable {P:Program}
def RW(P:Program)(h:za):Nat->TypeId->List aaa->Prop
 |0,_,_=>False
 |n+1,t,cs=>match P.underlying t with
  |some .bool=>∃b,cs=[.bool b]
  |some (.int k)=>∃i,cs=[.int k i]/\(Lit.int k i).wf=true
  |some .string=>∃s:ByteArray,cs=[.string s]/\s.size<=maxLen
  |some (.slice e)=>0<P.cellsOf e->cs=[.slice none 0 0] \/ ∃b off len,cs=[.slice (some ⟨b,off,none⟩) len 0]/\len*P.bytesOf e<=reachBytes/\(0<len->∃c t',h.get b=some (.cells c t') /\
    ∀i,i<len->off+i*P.cellsOf e+P.cellsOf e<=c.length/\RW P h n e ((c.drop (off+i*P.cellsOf e)).take (P.cellsOf e)))
  |some (.struct fs)=>cs.length=P.cellsOf t /\ ∀f,f∈fs->RW P h n f.type ((cs.drop f.offset).take (P.cellsOf f.type))
  |_=>True
def fV(P:Program)(h:za)(t:TypeId)(cs:List aaa):Prop := ∃n,RW P h n t cs
section
variable {h:za}{t e:TypeId}{cs:List aaa}{k:IntKind}
theorem VE(hu:P.underlying t=some (.int k))(r:fV P h t cs):∃i,cs=[.int k i]/\(Lit.int k i).wf=true:=by
 obtain⟨n,r⟩:=r;cases n with
 |zero=>exact r.elim
 |succ n=>simpa only[RW,hu] using r
theorem MX(hu:P.underlying t=some .string)(r:fV P h t cs):∃s:ByteArray,cs=[.string s]/\s.size<=maxLen:=by
 obtain⟨n,r⟩:=r;cases n with
 |zero=>exact r.elim
 |succ n=>simpa only[RW,hu] using r
theorem FB(hu:P.underlying t=some (.slice e)){sz bz:Nat}(hs:P.cellsOf e=sz)(hb:P.bytesOf e=bz)(h0:0<sz)(r:fV P h t cs):cs=[.slice none 0 0] \/ ∃b off len,cs=[.slice (some ⟨b,off,none⟩) len 0]/\len*bz<=reachBytes /\
  (0<len->∃c t',h.get b=some (.cells c t') /\ ∀i,i<len->off+i*sz+sz<=c.length/\fV P h e ((c.drop (off+i*sz)).take sz)):=by
 subst hs hb;obtain⟨n,r⟩:=r;cases n with
 |zero=>exact r.elim
 |succ n=>
  simp only[RW,hu]at r;rcases r h0 with r|⟨b,off,len,e1,e2,e3⟩
  ·exact .inl r
  ·refine .inr ⟨b,off,len,e1,e2,λhl=>?_⟩;obtain⟨c,t',g,hc⟩:=e3 hl;exact⟨c,t',g,λi hi=>⟨(hc i hi).1,n,(hc i hi).2⟩⟩
theorem aI{fs:Array Field}(hu:P.underlying t=some (.struct fs))(r:fV P h t cs):cs.length=P.cellsOf t /\ ∀f,f∈fs->fV P h f.type ((cs.drop f.offset).take (P.cellsOf f.type)):=by
 obtain⟨n,r⟩:=r;cases n with
 |zero=>exact r.elim
 |succ n=>
  simp only[RW,hu]at r;exact⟨r.1,λf hf=>⟨n,r.2 f hf⟩⟩
end
theorem JK{H:Type}{e:TypeId}:∀{l:List (DataW H)} {i:Nat} {d:DataW H},l[i]? = some d->∀n∈d.weights P e,n∈DataW.weightsAll P e l
 |d0::l,0,d,hd,n,hn=>by
  simp only[aaC,aab]at hd;subst hd;simp only[DataW.weightsAll,aaD];exact Or.inl hn
 |d0::l,i+1,d,hd,n,hn=>by
  simp only[aaR]at hd;simp only[DataW.weightsAll,aaD];exact Or.inr (JK hd n hn)
 |[],_,_,hd,_,_=>by simp at hd
section
variable {H:Type}{enc:TypeId×aaa->H}{w:World}{held:Bool}
theorem cY{sp:Nat->Bool}(hsp:∀b,sp b=true):∀(n:Nat) (t:TypeId) (cs:List aaa) (x:DataW H×List MemPlace),DataW.trod enc P w 0 sp held n t cs=some x->(∀m∈x.1.weights P t,m<=reachBytes)->RW P (absH P w) n t (cs.map (U1 P w))
 |0,t,cs,x,h,_=>by simp[DataW.trod]at h
 |n+1,t,cs,x,h,hwt=>by
  unfold RW;split
  ·rename_i hu;obtain⟨b,rfl,_⟩:=DataW.trod_bool hu h;exact⟨b,by simp only[abo,acy,LM]⟩
  ·rename_i k hu;obtain⟨i,rfl,_,hw⟩:=DataW.trod_int hu h;exact⟨i,by simp only[abo,acy,NS],hw⟩
  ·rename_i hu;obtain⟨s,rfl,_,hw⟩:=DataW.trod_string hu h;exact⟨s,by simp only[abo,acy,DW],hw⟩
  ·rename_i e hu;intro hz;rcases DataW.trod_slice hu h with⟨rfl,_⟩|⟨a,len,cap,elems,rest,m,hm,rfl,hx,_,hl,hmx,hel,hat,hrest,_⟩
   ·exact .inl (by simp only[abo,acy,NT])
   ·cases hm
    right
    have hr:=hrest (hsp _)
    have hwt2:∀m∈(elems.length+rest.length)*P.bytesOf e::(DataW.weightsAll P e (elems.map (·.1))++DataW.weightsAll P e (rest.map (·.1))),m<=reachBytes:=by
     intro m hm';apply hwt;rw[hx];simp only[DataW.weights,hu,aaq];exact hm'
    have all:∀i,i<cap->∃l y,w.cells? 0 (a.add (i*P.cellsOf e)) (P.cellsOf e)=some l/\DataW.trod enc P w 0 sp held n e l=some y:=by
     intro i hi;by_cases h1:i<len
     ·have:=hat i h1;rw[aag (by omega)]at this;simp only[Option.bind_eq_some_iff]at this;obtain⟨l,a1,a2⟩:=this;exact⟨l,_,a1,a2⟩
     ·have:=hr.2 (i-len) (by omega);rw[aag (by omega),show len+(i-len)=i by omega]at this;simp only[Option.bind_eq_some_iff]at this;obtain⟨l,a1,a2⟩:=this;exact⟨l,_,a1,a2⟩
    by_cases hcap:cap=0
    ·have hlen:len=0:=(by omega);subst hcap hlen;exact⟨0,0,0,by simp only[abo,acy,NU],by rw[acx];exact aaS _,λq=>absurd q (by decide)⟩
    ·· obtain⟨l0,y0,c0,_⟩:=all 0 (by omega)
       have ha0:a.add (0*P.cellsOf e)=a:=(by rw[acx];unfold Addr.add;simp);rw[ha0]at c0;obtain⟨cc,t',fz,hw,hs,_,_⟩:=Er c0 hz;have hb:a.block<w.heap.size:=YX hw;obtain⟨ab,ao,as⟩:=a;simp only at hs hb hw;subst hs;refine⟨ab,ao,len,by simp only[abo,acy,Gg (Nat.pos_of_ne_zero hcap) hl hb],aaU (abJ _ (by omega)) (hwt2 _ aak),λ_=>⟨_,t',NV hw,λi hi=>?_⟩⟩;have hati:=hat i hi;rw[aag (by omega)]at hati;simp only[Option.bind_eq_some_iff]at hati;obtain⟨l,c1,c2⟩:=hati;have hmy:∀m∈(elems[i]'(by omega)).1.weights P e,m<=reachBytes:=λm hm'=>hwt2 m (aar _ (aaK _ (JK (i:=i) (by rw[aay,aag (by omega)];rfl) m hm')));obtain⟨cc',t2,fz2,hw2,hs2,hle,rfl⟩:=Er c1 hz;have hblk:(Addr.add ⟨ab,ao,none⟩ (i*P.cellsOf e)).block=ab:=by unfold Addr.add;split <;> rfl
       have hoff:(Addr.add ⟨ab,ao,none⟩ (i*P.cellsOf e)).off=ao+i*P.cellsOf e:=(by unfold Addr.add;split <;> simp_all);rw[hblk,hw]at hw2;cases hw2;rw[hoff]at hle c2;refine⟨by simpa using hle,?_⟩;have:=cY hsp n e _ _ c2 hmy;rw[List.map_take,List.map_drop]at this;exact this
  ·rename_i fs hu;obtain⟨xs,m,hm,hx,hl,hlen,hf⟩:=DataW.trod_struct hu h;cases hm;refine⟨by simpa using hl,λf hfm=>?_⟩;obtain⟨i,hi,e⟩:=Array.getElem_of_mem hfm;have:=hf i f (by rw[aaL hi,e]);rw[aag (by omega)]at this
   have hmy:∀m∈(xs[i]'(by omega)).1.weights P f.type,m<=reachBytes:=λm hm'=>hwt m (by
    rw[hx];simp only[DataW.weights,hu];exact DataW.weights_mem_each (j:=i) (by rw[aay,Array.getElem?_toList,aaL hi,e];rfl) (by rw[aay,aag (by omega)];rfl) m hm')
   have:=cY hsp n f.type _ _ this hmy;rw[List.map_take,List.map_drop]at this;exact this
  ·trivial
theorem lP{ts:List TypeId}{t:TypeId}{ds:List (DataW H)}{d:DataW H}(h:∀m∈DataW.weightsEach P (t::ts) (d::ds),m<=reachBytes):(∀m∈d.weights P t,m<=reachBytes) /\ ∀m∈DataW.weightsEach P ts ds,m<=reachBytes:=by
 simp only[DataW.weightsEach,aaD]at h;exact⟨λm hm=>h m (.inl hm),λm hm=>h m (.inr hm)⟩
def RWs(P:Program)(h:za):List TypeId->List aaa->Prop
 |[],[]=>True
 |t::ts,a::as'=>(fV P h t a.cells.toList/\(OZ P t=false->Kd a=true))/\RWs P h ts as'
 |_,_=>False
theorem args_rw{sp:Nat->Bool}(hsp:∀b,sp b=true){r:Reach}{base:Nat}:∀(ts:List TypeId) (vs:List aaa) (ds:List (DataW H)) (p:List MemPlace),DataW.TrodAll enc P w 0 sp held ts vs ds p ->
  (∀(j:Nat) t v,ts[j]? = some t->vs[j]? = some v->Value.okWide P w r base t v)->(∀m∈DataW.weightsEach P ts ds,m<=reachBytes)->wI (aQ P w) (vs.map (Bq P w)) vs/\RWs P (absH P w) ts (vs.map (Bq P w))
 |[],[],[],p,h,hv,_=>⟨.nil _,trivial⟩
 |t::ts,v::vs,d::ds,p,h,hv,hm=>by
  obtain⟨p1,q1,⟨n,h1⟩,h2,_⟩:=h;obtain⟨m1,m2⟩:=lP hm;obtain⟨a1,a2⟩:=args_rw hsp ts vs ds q1 h2 (λj t v hj hv'=>hv (j+1) t v (by simpa using hj) (by simpa using hv')) m2;refine⟨.cons (NR P w v) a1,⟨⟨n,?_⟩,λhr=>DV (Ce (hv 0 t v rfl rfl) hr)⟩,a2⟩;rw[Gf];exact cY hsp n t _ _ h1 m1
 |[],_::_,_,p,h,hv,_=>by cases h
 |[],[],_::_,p,h,hv,_=>by cases h
 |_::_,[],_,p,h,hv,_=>by cases h
 |_::_,_::_,[],p,h,hv,_=>by cases h
end
end
noncomputable section
variable {P:Program}
def zR:aaa->Bool
 | .complex _ _ _=>true
 |_=>false
structure Le (r s:Env):Prop where
 size:r.size=s.size
 get:∀i,zR (r.get i)=true\/r.get i=s.get i
theorem Le.refl(s:Env):Le s s:=⟨rfl,λ_ => .inr rfl⟩
theorem Le.put{r s r1:Env}{d:Option Nat}{v u:aaa}(h:Le r s)(hp:r.put d v=some r1)(hv:zR v=true\/v=u):∃s1,s.put d u=some s1/\Le r1 s1:=by
 cases d with
 |none=>simp only[Env.put,aab]at hp;subst hp;exact⟨s,rfl,h⟩
 |some d=>
  simp only[Env.put]at hp ⊢;obtain⟨hc,hp⟩:=zq hp;rw[h.size]at hc;rw[hc];simp only[aab]at hp;subst hp;refine⟨_,rfl,⟨h.size,λi=>?_⟩⟩;rw[Env.yq,Env.yq];by_cases e:i=d
  ·rw[aah e,aah e];exact hv
  ·rw[aae e,aae e];exact h.get i
def ev(s:Env):Operand->aaa
 | .tmp t=>s.get t
 | .const v=>cond (flat v) v bot
 | .global g => .pointer (some ⟨g,0,some 0⟩)
 | .func f => .func (.func f) #[] #[]
theorem lev{r s:Env}(h:Le r s)(x:Operand):zR (ev r x)=true\/kT s x=some (ev r x):=by
 cases x with
 |tmp t=>rcases h.get t with e|e
         ·exact .inl e
         ·exact .inr (by simp only[kT,ev,e])
 |const v=>cases hf:flat v with
  |true=>exact .inr (by simp only[kT,ev,hf,aaw])
  |false=>exact .inl (by simp only[ev,hf,aaH];rfl)
 |global g=>exact .inr rfl
 |func f=>exact .inr rfl
theorem Yg{r s:Env}(h:Le r s){x:Operand}(hb:zR (ev r x)=false):kT s x=some (ev r x):=by
 rcases lev h x with e|e
 ·rw[e]at hb;cases hb
 ·exact e
def dm(s:Env):List Operand->List aaa
 |[]=>[]
 |x::l=>ev s x::dm s l
def yk:List aaa->Bool
 |[]=>true
 |v::l=>cond (zR v) false (yk l)
theorem Q9{r s:Env}(h:Le r s):∀{xs:List Operand},yk (dm r xs)=true->VO s xs=some (dm r xs)
 |[],_=>rfl
 |x::xs,hb=>by
  simp only[dm,yk]at hb;cases hx:zR (ev r x) with
  |true=>rw[hx]at hb;cases hb
  |false=>
   rw[hx]at hb;simp only[VO,dm,Yg h hx,Q9 h hb]
def R6(s:Env):List (Nat×Operand)->List (Nat×aaa)
 |[]=>[]
 |(i,x)::l=>(i,ev s x)::R6 s l
def Ri:List (Nat×aaa)->List aaa
 |[]=>[]
 |(_,v)::l=>v::Ri l
theorem za6{r s:Env}(h:Le r s):∀{ps:List (Nat×Operand)},yk (Ri (R6 r ps))=true->Vk s ps=some (R6 r ps)
 |[],_=>rfl
 |(i,x)::ps,hb=>by
  simp only[R6,Ri,yk]at hb;cases hx:zR (ev r x) with
  |true=>rw[hx]at hb;cases hb
  |false=>
   rw[hx]at hb;simp only[Vk,R6,Yg h hx,za6 h hb]
def evo(s:Env):Option Operand->Option aaa
 |none=>none
 |some x=>some (ev s x)
def PB:Option aaa->Bool
 |none=>true
 |some v => !zR v
theorem zcK{r s:Env}(h:Le r s){x:Option Operand}(hb:PB (evo r x)=true):sA s x=some (evo r x):=by
 cases x with
 |none=>rfl
 |some y=>
  simp only[evo,PB,aao]at hb;simp only[sA,evo,Yg h hb];rfl
def opt{α:Type}(x:Option α)(K:α->Prop):Prop:=match x with
 |some a=>K a
 |none=>False
theorem Fm{α:Type}(a:α)(K:α->Prop):opt (some a) K=K a:=rfl
theorem u2{α:Type}{x:Option α}{K:α->Prop}(h:opt x K):∃a,x=some a/\K a:=by
 cases x with
 |none=>exact h.elim
 |some a=>exact⟨a,rfl,h⟩
def zP(x:Option (aaa×za))(K:aaa->za->Prop):Prop:=match x with
 |some (v,h)=>K v h
 |none=>False
@[congr] theorem zbi {x y:Option (aaa×za)} {K:aaa->za->Prop} (h:x=y):zP x K=zP y K:=by rw[h]
theorem AX(v:aaa)(h:za)(K:aaa->za->Prop):zP (some (v,h)) K=K v h:=rfl
theorem Zm{x:Option (aaa×za)}{K:aaa->za->Prop}(h:zP x K):∃v g,x=some (v,g)/\K v g:=by
 cases x with
 |none=>exact h.elim
 |some a=>exact⟨a.1,a.2,rfl,h⟩
def nw(h:za)(c:List aaa)(t:TypeId)(K:aaa->za->Prop):Prop:=K (.pointer (some ⟨h.next,0,none⟩)) (h.push (.cells c t))
def nb{α:Type}(l:List aaa)(x:Option α):Option α:=cond (yk l) x none
theorem u9{α:Type}{l:List aaa}{x:Option α}{a:α}(h:nb l x=some a):yk l=true/\x=some a:=zq h
def pk(c a b:aaa):Option aaa:=match c with
 | .bool true=>nb [a] (some a)
 | .bool false=>nb [b] (some b)
 |_=>none
def Pt:aaa->Option aaa
 | .pointer (some a)=>some (.pointer (some a))
 | .func (.func f) a c=>some (.func (.func f) a c)
 |_=>none
def r7(P:Program)(op:UnOp)(a:aaa):Option aaa:=cond (flat a) (fl (yd P (Op.unary op a))) none
def zbZ(P:Program)(t:TypeId)(a:aaa):Option aaa:=match yd P (Instr.makeInterface t (.bool true)) with
 |some _=>some (.iface t a)
 |none=>none
def TM(P:Program)(t:TypeId)(x:aaa)(lo hi:Option aaa)(h:za):Option aaa:=match x with
 | .string str=>cond (Fh lo&&Fh hi) (fl (yd P (Instr.sliceAt t (.string str) lo hi none))) none
 |v=>oL P t v lo hi h
def afv(P:Program)(t:TypeId)(x:aaa)(f:Nat):Option aaa:=match x with
 | .agg cs=>(match yd P (underlying t) with
   |some (.struct fields)=>(match fields[f]? with
    |some fd=>apart P fd.type cs.toList fd.offset
    |none=>none)
   |_=>none)
 |_=>none
def RH(P:Program)(t:TypeId)(a b:aaa):Option aaa:=cond (flat a&&flat b) (fl (yd P (Instr.index t a b))) none
def Jf(x:aaa)(i:Nat):Option aaa:=match x with
 | .tuple vs=>nb (vs.toList) vs[i]?
 |_=>none
def qC(h:za):Prop:=(∀b o,h.get b=some o->b<h.next)/\h.ro<=h.next
def DC(P:Program)(f:FuncId)(args:List aaa)(h:za)(R:aaa->za->Prop):Prop :=
 qC h->∃v h1,R v h1/\AF h h1/\TC P f args h (λv' h'=>v'=v/\h'=h1)
def zcb(P:Program)(g:FuncId)(args:List aaa)(h:za)(K:aaa->za->Prop):Prop :=
 yk args=true/\((xW P g=true/\DC P g args h K)\/zP (BB P g args h) K)
def Rt(P:Program)(L:Nat)(args:List aaa)(h:za)(K:aaa->za->Prop):Prop :=
 yk args=true/\(qC h->∃v h1,K v h1/\AF h h1/\TY P L args h (λv' h'=>v'=v/\h'=h1))
def zL(P:Program)(f:aaa)(args:List aaa)(h:za)(K:aaa->za->Prop):Prop:=match f with
 | .func (.func g) a c=>yk args=true/\zcb P g (a.toList++args++c.toList) h K
 | .func (.yield L) a c=>a = #[]/\c = #[]/\Rt P L args h K
 |_=>False
def mv(s:Env)(x:Operand)(h:za)(K:aaa->za->Prop):Prop:=match x with
 | .tmp t=>K (s.get t) h
 | .const v=>cond (flat v) (K v h) False
 | .global g=>K (.pointer (some ⟨g,0,some 0⟩)) h
 | .func f=>K (.func (.func f) #[] #[]) h
def MH(P:Program)(s:Env)(o:Oper)(h:za)(K:aaa->za->Prop):Prop:=match o.op with
 | .move x | .assign x=>mv s x h K
 | .pick c a b=>opt (pk (ev s c) (ev s a) (ev s b)) λv=>K v h
 | .box t x=>opt (nb [ev s x] (some (ev s x).cells.toList)) λc=>nw h c t K
 | .alloc t=>opt (kX P t) λz=>nw h z.cells.toList t K
 | .build t parts=>opt (nb (Ri (R6 s parts.toList)) (yo P t (R6 s parts.toList))) λv=>K v h
 | .buildSlice t len parts=>zP (nb (Ri (R6 s parts.toList)) (zj P t len (R6 s parts.toList) h)) K
 | .load t a=>opt (zd P t (ev s a) h) λv=>K v h
 | .store t a x=>opt (nb [ev s x] (vH P t (ev s a) (ev s x) h)) λh'=>K undef h'
 | .nilCheck x=>opt (Pt (ev s x)) λv=>K v h
 | .binOp op t x y _=>opt (nb [ev s x,ev s y] (zT P op t x y (ev s x) (ev s y))) λv=>K v h
 | .unOp op _ x=>opt (r7 P op (ev s x)) λv=>K v h
 | .convert src dst x=>zP (nb [ev s x] (w9 P src dst (ev s x) h)) K
 | .makeInterface t x=>opt (nb [ev s x] (zbZ P t (ev s x))) λv=>K v h
 | .makeFunc (.func f) first captured=>opt (nb (dm s first.toList++dm s captured.toList) (some (Value.func (.func f) (dm s first.toList).toArray (dm s captured.toList).toArray))) λv=>K v h
 | .makeSlice t l c=>zP (V9 P t (ev s l) (ev s c) h) K
 | .slice t x lo hi none=>opt (nb [ev s x] (cond (PB (evo s lo)&&PB (evo s hi)) (TM P t (ev s x) (evo s lo) (evo s hi) h) none)) λv=>K v h
 | .fieldAddr t x f=>opt (zk P t (ev s x) f) λv=>K v h
 | .field t x f=>opt (afv P t (ev s x) f) λv=>K v h
 | .indexAddr t x i=>opt (vG P t (ev s x) (ev s i)) λv=>K v h
 | .index t x i=>opt (RH P t (ev s x) (ev s i)) λv=>K v h
 | .extract x i=>opt (Jf (ev s x) i) λv=>K v h
 | .call {callee := .builtin b,args,argTypes}=>zP (nb (dm s args.toList) (zF P b argTypes.toList o.type (dm s args.toList) h)) K
 | .makeMap _ none=>K (wV h).1 (wV h).2
 | .lookup t x k ok=>opt (nb [ev s x,ev s k] (Zg P t (ev s x) (ev s k) ok h)) λv=>K v h
 | .mapUpdate t m k x=>opt (nb [ev s m,ev s k,ev s x] (qI P t (ev s m) (ev s k) (ev s x) h)) λh'=>K undef h'
 | .range t x=>zP (nb [ev s x] (gT P t (ev s x) h)) K
 | .next x str=>zP (nb [ev s x] (Ag P (ev s x) str h)) K
 | .entry x=>opt (nb [ev s x] (By (ev s x) h)) λv=>K v h
 |_=>False
theorem VB{v:aaa}(h:yk [v]=true):zR v=false:=by
 simp only[yk]at h;cases hb:zR v with|true=>rw[hb]at h;cases h|false=>rfl
theorem ri{v w:aaa}(h:yk [v,w]=true):zR v=false/\zR w=false:=by
 simp only[yk]at h;cases hb:zR v with|true=>rw[hb]at h;cases h|false=>rw[hb]at h;exact⟨rfl,VB h⟩
theorem G4{u v w:aaa}(h:yk [u,v,w]=true):zR u=false/\zR v=false/\zR w=false:=by
 simp only[yk]at h;cases hb:zR u with|true=>rw[hb]at h;cases h|false=>rw[hb]at h;exact⟨rfl,ri h⟩
theorem MG{l m:List aaa}(h:yk (l++m)=true):yk l=true/\yk m=true:=by
 induction l with
 |nil=>exact⟨rfl,h⟩
 |cons v l ih=>
  simp only[ach,yk]at h ⊢;cases hb:zR v with
  |true=>rw[hb]at h;cases h
  |false=>rw[hb]at h;exact ih h
theorem XJ{h:za}{x:Option aaa}{v:aaa}(e:x=some v):one h x=some (v,h):=by rw[e];rfl
theorem Xf{v:aaa}(h:zR v=true):∃k a b,v=.complex k a b:=by cases v <;> first|exact⟨_,_,_,rfl⟩|cases h
theorem E5{r s:Env}(hl:Le r s){x:Operand}{h:za}{K:aaa->za->Prop}(hk:mv r x h K):∃v u,kT s x=some u/\(zR v=true\/v=u)/\K v h:=by
 cases x with
 |tmp t=>exact⟨_,_,rfl,hl.get t,hk⟩
 |const v=>
  simp only[mv]at hk;cases hf:flat v with
  |true=>rw[hf]at hk;exact⟨v,v,by simp only[kT,hf,aaw],.inr rfl,hk⟩
  |false=>rw[hf]at hk;exact hk.elim
 |global g=>exact⟨_,_,rfl,.inr rfl,hk⟩
 |func f=>exact⟨_,_,rfl,.inr rfl,hk⟩
theorem qX{r s:Env}(hl:Le r s){o:Oper}{h:za}{K:aaa->za->Prop}(hk:MH P r o h K) :
  ∃v u h',UM P s o h=some (u,h')/\(zR v=true\/v=u)/\K v h':=by
 have strict:∀(x:Operand) {α:Type} (F:aaa->Option α) {a:α},(∀k p q,F (.complex k p q)=none)->F (ev r x)=some a->kT s x=some (ev r x):=by
  intro x α F a hF e;refine Yg hl ?_;cases hb:zR (ev r x) with
  |false=>rfl
  |true=>obtain⟨k,p,q,e2⟩:=Xf hb;rw[e2,hF]at e;cases e
 unfold MH at hk;unfold UM;split at hk <;> rename_i yj <;> simp only[yj]
 ·obtain⟨v,u,e,hv,hk⟩:=E5 hl hk;exact⟨v,u,h,by rw[e];rfl,hv,hk⟩
 ·obtain⟨v,u,e,hv,hk⟩:=E5 hl hk;exact⟨v,u,h,by rw[e];rfl,hv,hk⟩
 ·rename_i c a b;obtain⟨v,e,hk⟩:=u2 hk;have ec:=strict c (λx=>pk x (ev r a) (ev r b)) (λ_ _ _=>rfl) e;rw[ec];unfold pk at e;split at e
  ·rename_i hc;obtain⟨n,e⟩:=u9 e;cases e;rw[hc];simp only[Yg hl (VB n)];exact⟨_,_,h,rfl,.inr rfl,hk⟩
  ·rename_i hc;obtain⟨n,e⟩:=u9 e;cases e;rw[hc];simp only[Yg hl (VB n)];exact⟨_,_,h,rfl,.inr rfl,hk⟩
  ·cases e
 ·obtain⟨c,e,hk⟩:=u2 hk;obtain⟨n,e⟩:=u9 e;cases e;simp only[Yg hl (VB n)];exact⟨_,_,_,rfl,.inr rfl,hk⟩
 ·obtain⟨z,e,hk⟩:=u2 hk;rw[e];exact⟨_,_,_,rfl,.inr rfl,hk⟩
 ·obtain⟨v,e,hk⟩:=u2 hk;obtain⟨n,e⟩:=u9 e;simp only[za6 hl n];exact⟨_,_,_,XJ e,.inr rfl,hk⟩
 ·obtain⟨v,g,e,hk⟩:=Zm hk;obtain⟨n,e⟩:=u9 e;simp only[za6 hl n];exact⟨_,_,_,e,.inr rfl,hk⟩
 ·obtain⟨v,e,hk⟩:=u2 hk;rw[strict _ (λx=>zd P _ x h) (λ_ _ _=>rfl) e];exact⟨_,_,_,XJ e,.inr rfl,hk⟩
 ·obtain⟨v,e,hk⟩:=u2 hk;obtain⟨n,e⟩:=u9 e;rw[strict _ (λx=>vH P _ x _ h) (λ_ _ _=>rfl) e];simp only[Yg hl (VB n),e];exact⟨_,_,_,rfl,.inr rfl,hk⟩
 ·obtain⟨v,e,hk⟩:=u2 hk;rw[strict _ Pt (λ_ _ _=>rfl) e];unfold Pt at e;split at e
  ·rename_i hc;cases e;rw[hc];exact⟨_,_,_,rfl,.inr rfl,hk⟩
  ·rename_i hc;cases e;rw[hc];exact⟨_,_,_,rfl,.inr rfl,hk⟩
  ·cases e
 ·obtain⟨v,e,hk⟩:=u2 hk;obtain⟨n,e⟩:=u9 e;simp only[Yg hl (ri n).1,Yg hl (ri n).2];exact⟨_,_,_,XJ e,.inr rfl,hk⟩
 ·obtain⟨v,e,hk⟩:=u2 hk;rw[strict _ (r7 P _) (λ_ _ _=>rfl) e];obtain⟨hf,e⟩:=zq e;simp only[hf,aaw];exact⟨_,_,_,XJ e,.inr rfl,hk⟩
 ·obtain⟨v,g,e,hk⟩:=Zm hk;obtain⟨n,e⟩:=u9 e;simp only[Yg hl (VB n)];exact⟨_,_,_,e,.inr rfl,hk⟩
 ·obtain⟨v,e,hk⟩:=u2 hk;obtain⟨n,e⟩:=u9 e;simp only[Yg hl (VB n)];unfold zbZ at e;split at e
  ·rename_i hm;cases e;rw[hm];exact⟨_,_,_,rfl,.inr rfl,hk⟩
  ·cases e
 ·obtain⟨v,e,hk⟩:=u2 hk;obtain⟨n,e⟩:=u9 e;cases e;obtain⟨n1,n2⟩:=MG n;simp only[Q9 hl n1,Q9 hl n2];exact⟨_,_,_,rfl,.inr rfl,hk⟩
 ·rename_i t l c;obtain⟨v,g,e,hk⟩:=Zm hk;have e1:=strict l (λx=>V9 P t x (ev r c) h) (λ_ _ _=>rfl) e;have e2:=strict c (λx=>V9 P t (ev r l) x h) (λk p q=>by unfold V9;split <;> first|rfl|(rename_i hh _;cases hh)) e;simp only[e1,e2];exact⟨_,_,_,e,.inr rfl,hk⟩
 ·rename_i t x lo hi;obtain⟨v,e,hk⟩:=u2 hk;obtain⟨n,e⟩:=u9 e;obtain⟨hb,e⟩:=zq e;simp only[aac]at hb;simp only[Yg hl (VB n),zcK hl hb.1,zcK hl hb.2];unfold TM at e;split at e
  ·rename_i str hs;rw[hs];simp only[UM.flatSlice,e];exact⟨_,_,_,rfl,.inr rfl,hk⟩
  ·rename_i hs;split
   ·rename_i a b c str h1 h2 h3;exact absurd (abg h1) (λq=>hs _ q)
   ·rename_i h1 h2 h3;cases h1;cases h2;cases h3;exact⟨_,_,_,XJ e,.inr rfl,hk⟩
   ·rename_i h1 h2;exact absurd rfl (h2 _ _ _ rfl rfl)
 ·rename_i t x f;obtain⟨v,e,hk⟩:=u2 hk;rw[strict x (λx=>zk P t x f) (λ_ _ _=>rfl) e];exact⟨_,_,_,XJ e,.inr rfl,hk⟩
 ·rename_i t x f;obtain⟨v,e,hk⟩:=u2 hk;rw[strict x (λx=>afv P t x f) (λ_ _ _=>rfl) e];unfold afv at e;split at e
  ·rename_i cs hc;rw[hc];split at e
   ·rename_i fields hu;simp only[hu];split at e
    ·rename_i fd hfd;simp only[hfd];exact⟨_,_,_,XJ e,.inr rfl,hk⟩
    ·cases e
   ·cases e
  ·cases e
 ·rename_i t x i;obtain⟨v,e,hk⟩:=u2 hk;have e1:=strict x (λx=>vG P t x (ev r i)) (λk p q=>by unfold vG;split <;> (try rfl);split <;> first|rfl|(rename_i hh;cases hh)) e;have e2:=strict i (λy=>vG P t (ev r x) y) (λk p q=>rfl) e;simp only[e1,e2];exact⟨_,_,_,XJ e,.inr rfl,hk⟩
 ·rename_i t x i;obtain⟨v,e,hk⟩:=u2 hk;have e1:=strict x (λx=>RH P t x (ev r i)) (λk p q=>rfl) e;have e2:=strict i (λy=>RH P t (ev r x) y) (λk p q=>by unfold RH;cases flat (ev r x) <;> rfl) e;obtain⟨hf,e⟩:=zq e;simp only[e1,e2,hf,aaw];exact⟨_,_,_,XJ e,.inr rfl,hk⟩
 ·rename_i x i;obtain⟨v,e,hk⟩:=u2 hk;rw[strict x (λx=>Jf x i) (λ_ _ _=>rfl) e];unfold Jf at e;split at e
  ·rename_i vs hc;rw[hc];obtain⟨n,e⟩:=u9 e;exact⟨_,_,_,XJ e,.inr rfl,hk⟩
  ·cases e
 ·obtain⟨v,g,e,hk⟩:=Zm hk;obtain⟨n,e⟩:=u9 e;simp only[Q9 hl n];exact⟨_,_,_,e,.inr rfl,hk⟩
 ·exact⟨_,_,_,rfl,.inr rfl,hk⟩
 ·obtain⟨v,e,hk⟩:=u2 hk;obtain⟨n,e⟩:=u9 e;simp only[Yg hl (ri n).1,Yg hl (ri n).2];exact⟨_,_,_,XJ e,.inr rfl,hk⟩
 ·obtain⟨v,e,hk⟩:=u2 hk;obtain⟨n,e⟩:=u9 e;simp only[Yg hl (G4 n).1,Yg hl (G4 n).2.1,Yg hl (G4 n).2.2,e];exact⟨_,_,_,rfl,.inr rfl,hk⟩
 ·obtain⟨v,g,e,hk⟩:=Zm hk;obtain⟨n,e⟩:=u9 e;simp only[Yg hl (VB n)];exact⟨_,_,_,e,.inr rfl,hk⟩
 ·obtain⟨v,g,e,hk⟩:=Zm hk;obtain⟨n,e⟩:=u9 e;simp only[Yg hl (VB n)];exact⟨_,_,_,e,.inr rfl,hk⟩
 ·obtain⟨v,e,hk⟩:=u2 hk;obtain⟨n,e⟩:=u9 e;simp only[Yg hl (VB n)];exact⟨_,_,_,XJ e,.inr rfl,hk⟩
 ·exact hk.elim
end
end Go.Ai
