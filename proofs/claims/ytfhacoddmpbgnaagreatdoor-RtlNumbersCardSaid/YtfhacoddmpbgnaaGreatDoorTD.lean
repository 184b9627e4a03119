/- A part of the proof. -/
import Derived.Test.YtfhacoddmpbgnaaGreatDoorTC
import Derived.ChangeSame
import Derived.Carry
import Derived.ProofKit
import Derived.ChangeStays
import Derived.ChangeArms
import Derived.SizedLaws
set_option linter.unusedVariables false
set_option linter.unusedSimpArgs false
set_option maxRecDepth 100000
namespace Go.Ai
noncomputable section
variable {P:Program} {cls:List Nat}
theorem vy {α:Type} {A A1 A2:List α} {y r:α} (e:A ++ [y]=A1 ++ r :: A2):(A2 = []/\A1=A/\r=y) \/ ∃ A3,A2=A3 ++ [y]/\A=A1 ++ r :: A3:=by
 rcases abm A2 with h | ⟨A3,z,h⟩
 ·subst h
  have:=List.append_inj' e rfl
  simp at this
  exact .inl ⟨rfl,this.1.symm,this.2.symm⟩
 ·subst h
  rw [abq] at *
  have e2:A ++ [y]=(A1 ++ r :: A3) ++ [z]:=by rw [e];simp
  have:=List.append_inj' e2 rfl
  simp at this
  exact .inr ⟨A3,by rw [this.2],this.1⟩
theorem rC {rec:Z0} (S:Sound P rec) (hF:Frames rec) (hC:j3 P cls=true) {ops:Array Oper} {s0:Env} {h0:za}:∀ (l:List Oper) (i:Nat) (ms:List Nat) (recs:List hZ) (s:Env) (h:za) {s':Env} {h':za},
  ops.toList.drop i=l->i<=ops.size->JC ops ms->ms.length=i->vz P ops s0 h0 (recs.map (·.r)).reverse i s h->(∀ x,x ∈ recs->SN x)->ZU ops l i ms (recs.map fun x=>(x.r.j,x.r.o))=true->U5 P cls rec ops l i ms recs s h=some (s',h') ->
  ∃ A,vz P ops s0 h0 A ops.size s' h'
 | [],i,ms,recs,s,h,s',h',hl,hle,hm,hml,F,hok,hst,he=>by
   simp only [U5,aaa,aae] at he
   obtain ⟨rfl,rfl⟩:=he
   have:i=ops.size:=by
    have:=congrArg List.length hl
    simp at this
    omega
   subst this
   exact ⟨_,F⟩
 | o :: os,i,ms,recs,s,h,s',h',hl,hle,hm,hml,F,hok,hst,he=>by
   have ho:ops[i]? = some o:=by
    have:=congrArg (fun l=>l[0]?) hl
    simp only [aaN,aaf] at this
    simpa using this
   have hlt:i < ops.size:=by
    rcases aar i ops.size with h | h
    ·exact h
    ·rw [aaF h] at ho;cases ho
   have hl':ops.toList.drop (i + 1)=os:=by rw [<- acx,hl];rfl
   simp only [U5] at he
   simp only [ZU,aac] at hst
   obtain ⟨⟨hedge,hslots⟩,hst⟩:=hst
   split at he
   case h_2=>cases he
   rename_i y h1 yF
   obtain ⟨hind,he⟩:=zv he
   split at he
   case h_2=>cases he
   rename_i s1 hp
   have hput:∀ d,o.dst=some d->d < s.size:=by
    intro d hd
    rw [hd] at hp
    simp only [Env.put] at hp
    obtain ⟨hb,_⟩:=zv hp
    simpa [aaR] using hb
   obtain ⟨hj,hyo,hfok,htold,hheap,hro,hnx,hyn,hwf⟩:=G6 S hF hC F ho hput yF
   have hs1:∀ t,s1.get t=if o.dst=some t then y.r.v else s.get t:=by
    intro t
    cases hd:o.dst with
    | none=>rw [hd] at hp;simp only [Env.put,aaa] at hp;subst hp;simp
    | some d=>
      rw [hd] at hp
      simp only [Env.put] at hp
      obtain ⟨_,hp⟩:=zv hp
      simp only [aaa] at hp
      subst hp
      rw [Env.yb]
      by_cases e:t=d
      ·subst e;simp
      ·rw [if_neg e,if_neg (by simp only [aaa];exact fun h=>e h.symm)]
   have hs1s:s1.size=s.size:=by
    cases hd:o.dst with
    | none=>rw [hd] at hp;simp only [Env.put,aaa] at hp;subst hp;rfl
    | some d=>
      rw [hd] at hp
      simp only [Env.put] at hp
      obtain ⟨_,hp⟩:=zv hp
      simp only [aaa] at hp
      subst hp;rfl
   have hrev:(List.map (·.r) (y :: recs)).reverse=(recs.map (·.r)).reverse ++ [y.r]:=by simp
   refine rC S hF hC os (i + 1) (ms ++ [yH ms o]) (y :: recs) s1 h1 hl' hlt (Vn hm hml ho) (by simp [hml]) ?_ (fun x hx => ?_) (by simpa [hj,hyo] using hst) he
   ·rw [hrev]
    refine ⟨?_,?_,hs1s.trans F.size,?_,hro.trans F.ro,aaH F.next hnx,?_,hwf,?_,?_,?_⟩
    ·rw [aaU,F.js,acr];simp [hj]
    ·intro t
     rw [hs1,Ja,hyo,F.env]
    ·intro b
     rw [hheap,cU,F.heap]
    ·intro x hx
     rcases aaP.1 hx with hx | hx
     ·exact aaH (F.nA x hx) hnx
     ·simp only [aaS] at hx;subst hx;exact hyn
    ·intro A1 r A2 e
     rcases vy e with ⟨_,rfl,rfl⟩ | ⟨A3,_,e3⟩
     ·exact htold
     ·exact F.told A1 r A3 e3
    ·intro A1 r A2 e ed hed hb
     rcases vy e with ⟨_,rfl,rfl⟩ | ⟨A3,_,e3⟩
     ·rw [hyo] at hed
      simp only [aas,aaV,aat,aaR] at hedge
      rcases hedge ed (by simpa using hed) with h2 | h2
      ·rw [hb] at h2;cases h2
      ·have:ed.on ∈ (recs.map (·.r)).reverse.map (·.j):=by rw [F.js];exact aa7.2 h2
       obtain ⟨x,hx,hxj⟩:=aba.1 this
       exact ⟨x,hx,hxj⟩
     ·exact F.Ub A1 r A3 e3 ed hed hb
    ·intro A1 x A2 z A3 e
     have e':(recs.map (·.r)).reverse ++ [y.r]=(A1 ++ x :: A2) ++ z :: A3:=by rw [e];simp
     rcases vy e' with ⟨_,e1,rfl⟩ | ⟨A4,_,e3⟩
     ·have hxm:x ∈ (recs.map (·.r)).reverse:=by rw [<- e1];simp
      rw [List.mem_reverse,aba] at hxm
      obtain ⟨fx,hfx,rfl⟩:=hxm
      simp only [aas,aaV] at hind hslots
      rcases hslots (fx.r.j,fx.r.o) (aba.2 ⟨fx,hfx,rfl⟩) with h2 | h2
      ·rw [hj];exact .inl (uY hm ho h2)
      ·rw [<- hyo] at h2
       rcases hind with h3 | h3
       ·exact .inr (Fm (hok fx hfx) hfok h2 (.inl h3))
       ·rcases h3 fx hfx with h4 | h4
        ·exact .inr (Fm (hok fx hfx) hfok h2 (.inr h4))
        ·rw [hj];exact .inl (uY hm ho h4)
     ·exact F.apart A1 x A2 z A4 (by rw [e3];simp)
   ·rcases abf.1 hx with rfl | hx
    ·exact hfok
    ·exact hok x hx
theorem DA {rec:Z0} (S:Sound P rec) (hF:Frames rec) (hC:j3 P cls=true) (hmix:P.follows .mixedOrders=true) {rd:Option Nat} {id:Nat} {ops:Array Oper} {s s':Env} {h h':za}
  (hst:ZU ops ops.toList 0 [] []=true) (he:U5 P cls rec ops ops.toList 0 [] [] s h=some (s',h')):T P rd (.region id ops true) s h (fun e1 s1 h1=>e1 = .normal/\s1=s'/\h1=h'):=by
 intro ρ w tm ds hr
 have F0:vz P ops s h ([]:List yx) 0 s h:=⟨rfl,fun t=>rfl,rfl,fun b=>rfl,rfl,aah _,fun x hx=>(by cases hx),fun b o hb=>hr.Qs b o hb,
  fun A1 r A2 e=>by simp at e,fun A1 r A2 e=>by simp at e,fun A1 x A2 y A3 e=>by simp at e⟩
 obtain ⟨A,F⟩:=rC S hF hC ops.toList 0 [] [] s h rfl (aa0 _) (fun k q hq=>by simp at hq) rfl F0 (fun x hx=>(by cases hx)) hst he
 have V:Valid P ops s h A:=⟨by rw [F.js];exact List.nodup_range,fun i hi=>by
   have:i ∈ A.map (·.j):=by rw [F.js];exact aa7.2 hi
   obtain ⟨r,hr,hj⟩:=aba.1 this
   exact ⟨r,hr,hj⟩,F.told,F.Ub,F.apart⟩
 exact Us hmix V F.env F.size F.heap F.ro F.next F.nA ⟨rfl,rfl,rfl⟩ ρ w tm ds hr
theorem Li {rec:Z0} (hF:Frames rec) {g:FuncId} {args:List Value} {h h':za} {v:Value} (he:By cls rec g args h=some (v,h')):AF h h':=by
 unfold By at he
 split at he
 ·split at he
  ·rename_i hrec
   simp only [aaa,aae] at he
   obtain ⟨_,rfl⟩:=he
   exact hF _ _ _ _ hrec
  ·cases he
 ·split at he
  ·obtain ⟨_,he⟩:=zv he
   simp only [aaa,aae] at he
   obtain ⟨_,rfl⟩:=he
   exact .refl _
  ·cases he
 ·split at he
  ·rename_i hrec
   simp only [aaa,aae] at he
   obtain ⟨_,rfl⟩:=he
   exact .wY (hF _ _ _ _ hrec).lock.1
  ·cases he
 ·cases he
theorem HB {rec:Z0} (hF:Frames rec) {L:Nat} {args:List Value} {h h':za} {v:Value} (he:nf rec L args h=some (v,h')):AF h h':=by
 unfold nf at he
 split at he
 case h_2=>cases he
 rename_i A hg
 split at he
 case h_2=>cases he
 split at he
 case h_2=>cases he
 rename_i s1 h1 hrec
 split at he
 case h_2=>cases he
 rename_i A1 g1
 obtain ⟨_,he⟩:=zv he
 split at he
 case h_2=>cases he
 rename_i e s2 h2 hrec2
 split at he
 case h_2=>cases he
 rename_i A2 g2
 obtain ⟨_,he⟩:=zv he
 simp only [aaa,aae] at he
 obtain ⟨rfl,rfl⟩:=he
 exact (((hF _ _ _ _ hrec).trans (.aN g1 _)).trans (hF _ _ _ _ hrec2)).trans (.aN g2 _)
theorem Hz {rec:Z0} (hF:Frames rec) {rd:Option Nat} {f:Option Value} {params:Array Tmp} {as bd:Code} {s:Env} {h h':za} {e:Ex} (he:m9 cls rec rd f params as bd s h=some (e,h')):AF h h':=by
 unfold m9 at he
 split at he
 case h_2=>cases he
 obtain ⟨_,he⟩:=zv he
 split at he
 case h_2=>cases he
 rename_i v h1 hrec
 split at he
 case h_2=>cases he
 rename_i A hA
 obtain ⟨_,he⟩:=zv he
 split at he
 case h_2=>cases he
 simp only [aaa,aae] at he
 obtain ⟨_,rfl⟩:=he
 exact ((AF.push _ _).trans (hF _ _ _ _ hrec)).trans (.aN hA _)
theorem G9 {rec:Z0} (hF:Frames rec) {s:Env} {o:Oper} {h h':za} {v:Value} (he:evalOp P cls rec s o h=some (v,h')):AF h h':=by
 unfold evalOp at he
 split at he
 ·split at he
  ·rename_i g fa fc vs _ _
   cases hk:Nat.beq (cls.getD g 0) 0 with
   | true=>
     rw [hk] at he
     simp only [cond_true] at he
     exact (Yt he).af
   | false=>
     rw [hk] at he
     simp only [cond_false] at he
     exact Li hF he
  ·obtain ⟨_,he⟩:=zv he
   exact HB hF he
  ·cases he
 ·exact (Zz he).1
theorem fu {rec:Z0} (hF:Frames rec) {ops:Array Oper}:∀ (l:List Oper) {s s':Env} {h h':za},Qh P cls rec ops l s h=some (s',h')->AF h h'
 | [],s,s',h,h',he=>by
   simp only [Qh,aaa,aae] at he
   obtain ⟨_,rfl⟩:=he
   exact .refl _
 | o :: os,s,s',h,h',he=>by
   simp only [Qh] at he
   cases hw:yh ops s o with
   | false=>
     rw [hw] at he
     simp only [cond_false] at he
     split at he
     ·exact fu hF os he
     ·cases he
   | true=>
     rw [hw] at he
     simp only [cond_true] at he
     split at he
     ·rename_i hev
      split at he
      ·exact (G9 hF hev).trans (fu hF os he)
      ·cases he
     ·cases he
theorem E3 {h g:za} {l:List Nat} (hn:h.next<=g.next) (hl:∀ b,b ∈ l->∀ o,g.get b=some o->h.get b ≠ none\/(h.next<=b/\b < g.next)):AF h (h.NG g l):=⟨hn,rfl,fun b o hb=>by
 rw [Kn] at hb
 split at hb
 ·rename_i hm;exact hl b hm o hb
 ·exact .inl (by rw [hb];simp)⟩
theorem G5 {rec:Z0} (hF:Frames rec) {ops:Array Oper} {recs:List hZ} {mask i:Nat} {o:Oper} {os:List Oper} {s:Env} {h h1:za} {y:hZ} (he:mj P cls rec ops recs mask i os o s h=some (y,h1)):AF h h1:=by
 unfold mj at he
 cases hw:yh ops s o with
 | false=>
   rw [hw] at he
   simp only [cond_false,aaa,aae] at he
   obtain ⟨_,rfl⟩:=he
   exact .refl _
 | true=>
   rw [hw] at he
   simp only [cond_true] at he
   split at he
   ·split at he
    case h_2=>cases he
    split at he
    ·split at he
     case h_2=>cases he
     rename_i hrec
     simp only [aaa,aae] at he
     obtain ⟨_,rfl⟩:=he
     have af:=hF _ _ _ _ hrec
     refine ⟨af.next,af.ro,fun b o' hb => ?_⟩
     rw [aD] at hb
     split at hb
     ·exact .inl (by rw [hb];simp)
     ·rcases af.alive b o' hb with h2 | h2
      ·rw [jY] at h2
       split at h2
       ·exact absurd rfl h2
       ·exact .inl h2
      ·exact .inr h2
    ·split at he
     case h_2=>cases he
     obtain ⟨_,he⟩:=zv he
     simp only [aaa,aae] at he
     obtain ⟨_,rfl⟩:=he
     exact .refl _
    ·split at he
     case h_2=>cases he
     rename_i hrec
     simp only [aaa,aae] at he
     obtain ⟨_,rfl⟩:=he
     have:=(hF _ _ _ _ hrec).lock.1
     exact .wY this
    ·split at he
     case h_2=>cases he
     rename_i v g' yF
     simp only [aaa,aae] at he
     obtain ⟨_,rfl⟩:=he
     have af:=(Yt yF).af
     refine E3 af.next (fun b _ o' hb => ?_)
     rcases af.alive b o' hb with h2 | h2
     ·rw [vM] at h2
      split at h2
      ·exact .inl h2
      ·exact absurd rfl h2
     ·exact .inr h2
   ·split at he
    case h_2=>cases he
    rename_i v g' yF
    simp only [aaa,aae] at he
    obtain ⟨_,rfl⟩:=he
    have af:=(Zz yF).1
    refine E3 af.next (fun b _ o' hb => ?_)
    rcases af.alive b o' hb with h2 | h2
    ·rw [vM] at h2
     split at h2
     ·exact .inl h2
     ·exact absurd rfl h2
    ·exact .inr h2
theorem rA {rec:Z0} (hF:Frames rec) {ops:Array Oper}:∀ (l:List Oper) (i:Nat) (ms:List Nat) (recs:List hZ) {s s':Env} {h h':za},U5 P cls rec ops l i ms recs s h=some (s',h')->AF h h'
 | [],i,ms,recs,s,s',h,h',he=>by
   simp only [U5,aaa,aae] at he
   obtain ⟨_,rfl⟩:=he
   exact .refl _
 | o :: os,i,ms,recs,s,s',h,h',he=>by
   simp only [U5] at he
   split at he
   case h_2=>cases he
   rename_i y h1 yF
   obtain ⟨_,he⟩:=zv he
   split at he
   case h_2=>cases he
   exact (G5 hF yF).trans (rA hF os _ _ _ he)
theorem Bv {rec:Z0} (hF:Frames rec):Frames (body P cls rec):=by
 intro t h o h' he
 cases t with
 | call f args=>
   simp only [body] at he
   split at he
   case h_1=>cases he
   split at he
   case h_1=>cases he
   split at he
   ·rename_i hrec
    split at he
    ·simp only [aaa,aae] at he;obtain ⟨_,rfl⟩:=he;exact hF _ _ _ _ hrec
    ·cases he
   ·rename_i hrec
    split at he
    ·simp only [aaa,aae] at he;obtain ⟨_,rfl⟩:=he;exact hF _ _ _ _ hrec
    ·cases he
   ·cases he
 | code rd c s=>
   cases c <;> simp only [body] at he
   case skip=>simp only [aaa,aae] at he;obtain ⟨_,rfl⟩:=he;exact .refl _
   case label=>simp only [aaa,aae] at he;obtain ⟨_,rfl⟩:=he;exact .refl _
   case exit=>simp only [aaa,aae] at he;obtain ⟨_,rfl⟩:=he;exact .refl _
   case ret=>simp only [aaa,aae] at he;obtain ⟨_,rfl⟩:=he;exact .refl _
   case region id ops draw=>
    cases draw with
    | true=>
      simp only [cond_true] at he
      obtain ⟨_,he⟩:=zv he
      split at he
      ·rename_i hd
       simp only [aaa,aae] at he;obtain ⟨_,rfl⟩:=he
       exact rA hF _ _ _ _ hd
      ·cases he
    | false=>
      simp only [cond_false] at he
      split at he
      ·rename_i hd
       simp only [aaa,aae] at he;obtain ⟨_,rfl⟩:=he
       exact fu hF _ hd
      ·cases he
   case seq a b=>
    split at he
    ·rename_i hrec;exact (hF _ _ _ _ hrec).trans (hF _ _ _ _ he)
    ·exact hF _ _ _ _ he
   case cond x a b=>
    split at he
    ·exact hF _ _ _ _ he
    ·exact hF _ _ _ _ he
    ·cases he
   case block id a=>
    split at he
    ·rename_i id' s1 h1 hrec
     cases hb:Nat.beq id' id with
     | true=>rw [hb] at he;simp only [cond_true,aaa,aae] at he;obtain ⟨_,rfl⟩:=he;exact hF _ _ _ _ hrec
     | false=>rw [hb] at he;simp only [cond_false,aaa,aae] at he;obtain ⟨_,rfl⟩:=he;exact hF _ _ _ _ hrec
    ·exact hF _ _ _ _ he
   case scope a=>exact hF _ _ _ _ he
   case loop a=>
    split at he
    ·rename_i hrec;exact (hF _ _ _ _ hrec).trans (hF _ _ _ _ he)
    ·exact hF _ _ _ _ he
   case rangeFunc f params as bd=>
    split at he
    ·rename_i hr
     simp only [aaa,aae] at he
     obtain ⟨_,rfl⟩:=he
     exact Hz hF hr
    ·cases he
   all_goals cases he
theorem Du {rec:Z0} (S:Sound P rec) (hF:Frames rec) (hC:j3 P cls=true) (hmix:P.follows .mixedOrders=true):Sound P (body P cls rec):=by
 refine ⟨?_,?_,?_,?_⟩
 ·intro rd c s h e s' h' he
  cases c <;> simp only [body] at he
  case skip=>simp only [aaa,aae,Out.ex.injEq] at he;obtain ⟨⟨rfl,rfl⟩,rfl⟩:=he;exact H0 ⟨rfl,rfl,rfl⟩
  case label=>simp only [aaa,aae,Out.ex.injEq] at he;obtain ⟨⟨rfl,rfl⟩,rfl⟩:=he;exact Et ⟨rfl,rfl,rfl⟩
  case exit=>simp only [aaa,aae,Out.ex.injEq] at he;obtain ⟨⟨rfl,rfl⟩,rfl⟩:=he;exact HZ ⟨rfl,rfl,rfl⟩
  case ret=>simp only [aaa,aae,Out.ex.injEq] at he;obtain ⟨⟨rfl,rfl⟩,rfl⟩:=he;exact N5 ⟨rfl,rfl,rfl⟩
  case region id ops draw=>
   cases draw with
   | true=>
     simp only [cond_true] at he
     obtain ⟨hst,he⟩:=zv he
     split at he
     ·rename_i hd
      simp only [aaa,aae,Out.ex.injEq] at he
      obtain ⟨⟨rfl,rfl⟩,rfl⟩:=he
      exact DA S hF hC hmix hst hd
     ·cases he
   | false=>
     simp only [cond_false] at he
     split at he
     ·rename_i hd
      simp only [aaa,aae,Out.ex.injEq] at he
      obtain ⟨⟨rfl,rfl⟩,rfl⟩:=he
      refine Af ?_
      have:=Qi S hC ops.toList 0 rfl hd
      rw [abt,<- List.range_eq_range'] at this
      intro ρ w tm ds hr hs b k cs
      obtain ⟨s1,h1,ρ1,w1,tm1,⟨q1,q2⟩,r⟩:=this ρ w tm ds hr hs b k cs
      exact ⟨s1,h1,ρ1,w1,tm1,⟨rfl,q1,q2⟩,r⟩
     ·cases he
  case seq a b=>
   refine Ev ?_
   split at he
   ·rename_i s1 h1 hrec
    refine (S.code _ _ _ _ _ _ _ hrec).mono ?_
    rintro e1 s2 h2 ⟨rfl,rfl,rfl⟩
    exact S.code _ _ _ _ _ _ _ he
   ·rename_i hne
    refine (S.code _ _ _ _ _ _ _ he).mono ?_
    rintro e1 s2 h2 ⟨rfl,rfl,rfl⟩
    cases e1 with
    | normal=>exact (hne _ _ he).elim
    | exit id=>exact ⟨rfl,rfl,rfl⟩
    | ret=>exact ⟨rfl,rfl,rfl⟩
  case cond x a b=>
   split at he
   ·rename_i hx;exact su hx (by rw [if_pos rfl];exact S.code _ _ _ _ _ _ _ he)
   ·rename_i hx;exact su hx (by rw [if_neg (by decide)];exact S.code _ _ _ _ _ _ _ he)
   ·cases he
  case block id a=>
   refine aX ?_
   split at he
   ·rename_i id' s1 h1 hrec
    refine (S.code _ _ _ _ _ _ _ hrec).mono ?_
    rintro e1 s2 h2 ⟨rfl,rfl,rfl⟩
    cases hb:Nat.beq id' id with
    | true=>
      rw [hb] at he
      simp only [cond_true,aaa,aae,Out.ex.injEq] at he
      obtain ⟨⟨rfl,rfl⟩,rfl⟩:=he
      rw [aam hb,if_pos rfl]
      exact ⟨rfl,rfl,rfl⟩
    | false=>
      rw [hb] at he
      simp only [cond_false,aaa,aae,Out.ex.injEq] at he
      obtain ⟨⟨rfl,rfl⟩,rfl⟩:=he
      rw [if_neg (by
       intro hc
       cases hc
       rw [ab5] at hb;cases hb)]
      exact ⟨rfl,rfl,rfl⟩
   ·rename_i hne
    refine (S.code _ _ _ _ _ _ _ he).mono ?_
    rintro e1 s2 h2 ⟨rfl,rfl,rfl⟩
    cases e1 with
    | normal=>rw [if_neg (by simp)];exact ⟨rfl,rfl,rfl⟩
    | exit id'=>exact (hne _ _ _ he).elim
    | ret=>rw [if_neg (by simp)];exact ⟨rfl,rfl,rfl⟩
  case scope a=>exact Eu (S.code _ _ _ _ _ _ _ he)
  case loop a=>
   refine WB ?_
   split at he
   ·rename_i s1 h1 hrec
    refine (S.code _ _ _ _ _ _ _ hrec).mono ?_
    rintro e1 s2 h2 ⟨rfl,rfl,rfl⟩
    exact S.code _ _ _ _ _ _ _ he
   ·rename_i hne
    refine (S.code _ _ _ _ _ _ _ he).mono ?_
    rintro e1 s2 h2 ⟨rfl,rfl,rfl⟩
    cases e1 with
    | normal=>exact (hne _ _ he).elim
    | exit id=>exact ⟨rfl,rfl,rfl⟩
    | ret=>exact ⟨rfl,rfl,rfl⟩
  case rangeFunc f params as bd=>
   split at he
   ·rename_i hr
    simp only [aaa,aae,Out.ex.injEq] at he
    obtain ⟨⟨rfl,rfl⟩,rfl⟩:=he
    exact tR S hC hr
   ·cases he
  all_goals cases he
 ·intro f args h v h' he
  simp only [body] at he
  split at he
  case h_1=>cases he
  rename_i fn hfn
  split at he
  case h_1=>cases he
  rename_i c hc
  have fin:∀ e s1 h1,(e = .normal\/e = .ret)->rec (.code none c (Env.enter args fn.ntmps)) h=some (.ex e s1,h1)->(match uG P s1 h1 fn.results.toList with | some vs=>some (Out.val (jF vs),h1) | none=>none)=some (.val v,h') ->
    TC P f args h (fun v1 h1=>v1=v/\h1=h'):=by
   intro e s1 h1 hee hrec hres
   split at hres
   ·rename_i vs hvs
    simp only [aaa,aae,Out.val.injEq] at hres
    obtain ⟨rfl,rfl⟩:=hres
    refine Eo hfn hc ((S.code _ _ _ _ _ _ _ hrec).mono ?_)
    rintro e1 s2 h2 ⟨rfl,rfl,rfl⟩
    exact ⟨hee,vs,hvs,rfl,rfl⟩
   ·cases hres
  split at he
  ·rename_i s1 h1 hrec;exact fin _ s1 h1 (.inl rfl) hrec he
  ·rename_i s1 h1 hrec;exact fin _ s1 h1 (.inr rfl) hrec he
  ·cases he
 ·intro rd c s h o h' he
  cases c <;> simp only [body] at he
  case skip=>simp only [aaa,aae] at he;obtain ⟨rfl,_⟩:=he;exact ⟨_,_,rfl⟩
  case label=>simp only [aaa,aae] at he;obtain ⟨rfl,_⟩:=he;exact ⟨_,_,rfl⟩
  case exit=>simp only [aaa,aae] at he;obtain ⟨rfl,_⟩:=he;exact ⟨_,_,rfl⟩
  case ret=>simp only [aaa,aae] at he;obtain ⟨rfl,_⟩:=he;exact ⟨_,_,rfl⟩
  case region id ops draw=>
   cases draw with
   | true=>
     simp only [cond_true] at he
     obtain ⟨_,he⟩:=zv he
     split at he
     ·simp only [aaa,aae] at he;obtain ⟨rfl,_⟩:=he;exact ⟨_,_,rfl⟩
     ·cases he
   | false=>
     simp only [cond_false] at he
     split at he
     ·simp only [aaa,aae] at he;obtain ⟨rfl,_⟩:=he;exact ⟨_,_,rfl⟩
     ·cases he
  case seq a b=>
   split at he
   ·exact S.kind _ _ _ _ _ _ he
   ·exact S.kind _ _ _ _ _ _ he
  case cond x a b=>
   split at he
   ·exact S.kind _ _ _ _ _ _ he
   ·exact S.kind _ _ _ _ _ _ he
   ·cases he
  case block id a=>
   split at he
   ·rename_i id' s1 h1 hrec
    cases hb:Nat.beq id' id with
    | true=>rw [hb] at he;simp only [cond_true,aaa,aae] at he;obtain ⟨rfl,_⟩:=he;exact ⟨_,_,rfl⟩
    | false=>rw [hb] at he;simp only [cond_false,aaa,aae] at he;obtain ⟨rfl,_⟩:=he;exact ⟨_,_,rfl⟩
   ·exact S.kind _ _ _ _ _ _ he
  case scope a=>exact S.kind _ _ _ _ _ _ he
  case loop a=>
   split at he
   ·exact S.kind _ _ _ _ _ _ he
   ·exact S.kind _ _ _ _ _ _ he
  case rangeFunc f params as bd=>
   split at he
   ·simp only [aaa,aae] at he;obtain ⟨rfl,_⟩:=he;exact ⟨_,_,rfl⟩
   ·cases he
  all_goals cases he
 ·intro f args h o h' he
  simp only [body] at he
  split at he
  case h_1=>cases he
  split at he
  case h_1=>cases he
  split at he
  ·split at he
   ·simp only [aaa,aae] at he;obtain ⟨rfl,_⟩:=he;exact ⟨_,rfl⟩
   ·cases he
  ·split at he
   ·simp only [aaa,aae] at he;obtain ⟨rfl,_⟩:=he;exact ⟨_,rfl⟩
   ·cases he
  ·cases he
theorem Cr (hC:j3 P cls=true) (hmix:P.follows .mixedOrders=true):∀ n,Sound P (run P cls n)/\Frames (run P cls n)
 | 0=>⟨⟨fun rd c s h e s' h' he=>(by cases he),fun f args h v h' he=>(by cases he),fun rd c s h o h' he=>(by cases he),fun f args h o h' he=>(by cases he)⟩,fun t h o h' he=>(by cases he)⟩
 | n + 1=>by
   obtain ⟨S,F⟩:=Cr hC hmix n
   exact ⟨Du S F hC hmix,Bv F⟩
theorem F9 (hC:j3 P cls=true) (hmix:P.follows .mixedOrders=true) {n:Nat} {f:FuncId} {args:List Value} {h h':za} {v:Value} (he:run P cls n (.call f args) h=some (.val v,h')):TC P f args h (fun v1 h1=>v1=v/\h1=h') :=
 (Cr hC hmix n).1.call _ _ _ _ _ he
def tX (n:Nat) (tabs:List (Nat × List Value)):za:=⟨tabs.foldl (fun t x=>t.set x.1 (some (.tab x.2))) .e,n,n⟩
theorem aC {n:Nat} {tabs:List (Nat × List Value)} {b:Nat} {o:xE} (h:(tX n tabs).get b=some o):∃ c,(b,c) ∈ tabs/\o = .tab c:=by
 have key:∀ (l:List (Nat × List Value)) (t:Tr xE),(l.foldl (fun t x=>t.set x.1 (some (.tab x.2))) t).get b=some o->(∃ c,(b,c) ∈ l/\o = .tab c)\/t.get b=some o:=by
  intro l
  induction l with
  | nil=>intro t h;exact .inr h
  | cons x l ih=>
    intro t h
    rw [List.foldl_cons] at h
    rcases ih _ h with ⟨c,h1,h2⟩ | h1
    ·exact .inl ⟨c,by simp [h1],h2⟩
    ·rw [Tr.yb] at h1
     split at h1
     ·rename_i e
      simp only [aaa] at h1
      subst e
      exact .inl ⟨x.2,by simp,h1.symm⟩
     ·exact .inr h1
 rcases key tabs .e h with h1 | h1
 ·exact h1
 ·cases h1
def Ab (w:World) (g:Nat) (c:List Value):Prop := ∃ cs t fz,w.heap[g]? = some (.cells cs t fz) /\ ∀ (i:Nat) x,c[i]? = some x->cs[i]? = some x
theorem D9 (P:Program) (w:World) (n:Nat) (tabs:List (Nat × List Value)) (hn:P.globals.size<=n) (hg:∀ x,x ∈ tabs->x.1 < n/\x.2.all flat=true/\Ab w x.1 x.2) :
  Rel P ⟨n,fun g=>some ⟨g,0,(match w.heap[g]? with | some (.cells cs _ _)=>cs.size | _=>0),0⟩⟩ (tX n tabs) w:=by
 refine ⟨rfl,aah _,fun b o h => ?_,fun b o h => ?_,fun b1 b2 o1 o2 p1 p2 h1 h2 m1 m2 e => ?_,hn,fun b pl _ h => ?_⟩
 ·obtain ⟨c,h1,_⟩:=aC h
  exact (hg _ h1).1
 ·obtain ⟨c,h1,rfl⟩:=aC h
  obtain ⟨_,h2,cs,t,fz,h3,h4⟩:=hg _ h1
  refine ⟨_,rfl,t,cs,fz,h3,by simp only [h3],⟨rfl,Nat.zero_mod _⟩,?_,fun e=>(by cases e),fun i x hx=>⟨x,by simpa using h4 i x hx,?_⟩⟩
  ·show 0 + c.length<=cs.size
   rcases aar cs.size c.length with hl | hl
   ·have h5:=h4 cs.size _ (aab hl)
    simp at h5
   ·omega
  ·simp only [aas] at h2
   exact .of_flat _ (h2 x (aaq hx))
 ·simp only [aaa] at m1 m2
  subst m1 m2
  exact e
 ·simp only [aaa] at h
  subst h
  exact ⟨rfl,rfl⟩
theorem HG {ρ:yN} {v v':Value} (hv:fy v=true) (hvr:zK ρ v v'):v'=v:=by
 cases v with
 | tuple a=>
   cases hvr with
   | tuple ha hr=>
     simp only [fy,aas] at hv
     congr 1
     apply ab2
     refine mR (by simpa using ha) (fun i x y hx hy => ?_)
     exact kJ (hr i x y (by simpa using hx) (by simpa using hy)) (hv x (aaq hx))
 | _=>exact kJ hvr hv
end
noncomputable section
open Go.ChangeShapes Go.WideShapes Go.ChangeAt Go.RowKit
variable {P:Program} {H:Type} {enc:TypeId × Value->H}
theorem post_of_below {f:Func} {s:ChangeSpec} {apart fresh handsOn again:Bool} {W W':World} {args:Array Value} {v:Value} {ds gs:List (DataW H)} {before pa pv:List MemPlace}
  (hW:DataW.Whole enc P f.params.toList s.vars apart W args.toList ds gs before)
  (hres:∀ (b:Nat) (sp:Nat->Bool) (hd:Bool),DataW.TrodAll enc P W' b sp hd f.resultTypes.toList (v.resultList f.resultTypes.size) (s.fn H (ds ++ gs)).results [])
  (hargs:∀ sp:Nat->Bool,(∀ p ∈ before,sp p.block=true)->DataW.TrodAll enc P W' 0 sp true f.params.toList args.toList (s.fn H (ds ++ gs)).args pa)
  (hvars:∀ sp:Nat->Bool,(∀ p ∈ before,sp p.block=true)->DataW.TrodVars enc P W' sp s.vars (s.fn H (ds ++ gs)).vars pv)
  (hps:before=pa ++ pv) (hb:Below W.heap.size W W')
  (hok:∀ (j:Nat) (t:TypeId) (r:Value),f.resultTypes[j]? = some t->(v.resultList f.resultTypes.size)[j]? = some r->Value.okWide P W' .any 0 t r) :
  s.post enc P f apart fresh handsOn again W args v W':=by
 have hold:∀ p ∈ before,(fun b=>decide (b < W.heap.size)) p.block=true:=fun p hp=>by simpa using hW.lt p hp
 refine ⟨ds,gs,before,[],pa,pv,hW,hres _ _ _,hargs _ hold,hvars _ hold,hb.frame _,fun _ => ?_⟩
 have hlt:∀ p ∈ before,p.block < W.heap.size:=fun p hp=>hW.lt p hp
 obtain ⟨_,_,_,_,_,hz,hn⟩:=hW
 refine ⟨hok,_,_,([] ++ pa) ++ pv,⟨[] ++ pa,pv,trodAll_append (hargs _ (fun _ _=>rfl)) (hres _ _ _),hvars _ (fun _ _=>rfl),rfl,?_,?_⟩,?_⟩
 ·intro b off hp
  have hp':MemPlace.cell b off ∈ before:=by rw [hps];simpa using hp
  rw [hb.frozen (p:=⟨b,off,none⟩) (hlt _ hp')]
  exact hz b off hp'
 ·intro ha
  have:=hn ha
  rw [hps] at this
  simpa using this
 ·intro p hp _
  rw [hps]
  simpa using hp
def PM:Option (Out × za)->Bool
 | some (.val (.bool b),_)=>b
 | _=>false
theorem NJ {x:Option (Out × za)} (h:PM x=true):∃ h',x=some (.val (.bool true),h'):=by
 unfold PM at h
 split at h
 ·subst h;exact ⟨_,rfl⟩
 ·cases h
end
noncomputable section
variable {P:Program} {cls:List Nat}
structure Sub (h H:za):Prop where
 next:H.next=h.next
 ro:H.ro=h.ro
 get:∀ b o,H.get b=some o->h.get b=some o
theorem Rel.sub {ρ:yN} {h H:za} {w:World} (hr:Rel P ρ h w) (s:Sub h H):Rel P ρ H w :=
 ⟨hr.next.trans s.next.symm,by rw [s.ro,s.next];exact hr.ro,fun b o hb=>by rw [s.next];exact hr.Qs b o (s.get b o hb),fun b o hb=>by rw [s.ro];exact hr.ok b o (s.get b o hb),
  fun b1 b2 o1 o2 p1 p2 h1 h2=>hr.inj b1 b2 o1 o2 p1 p2 (s.get _ _ h1) (s.get _ _ h2),by rw [s.ro];exact hr.eV,hr.Zg⟩
theorem aV.sub {ρ:yN} {h H:za} (s:Sub h H) {c:Nat} (hm:aV ρ H c):aV ρ h c:=by
 obtain ⟨b,o,pl,hg,hro,hm,e⟩:=hm
 exact ⟨b,o,pl,s.get b o hg,by rw [<- s.ro];exact hro,hm,e⟩
theorem Step.sub {ρ ρ':yN} {h H h':za} {w w':World} (s:Sub h H) (st:Step P ρ H w ρ' h' w'):Step P ρ h w ρ' h' w' :=
 ⟨st.le,st.rel,st.ro.trans s.ro,st.os,st.tape,st.output,st.size,fun c hc hn=>st.frame c hc (fun hm=>hn (hm.sub s)),fun c hc hm=>(st.im c hc hm).sub s⟩
def seen (k:Nat) (bs:List Nat):Option (Out × za)->Option (List Value × List (Option xE) × Nat × Nat × Nat)
 | some (.ex .normal s,h)=>some ((List.range k).map s.get,bs.map h.get,s.size,h.next,h.ro)
 | _=>none
end
noncomputable section
variable {P:Program} {cls:List Nat}
end
noncomputable section
variable {P:Program}
def ID (n:Nat):Value->Value
 | .bool b => .bool b
 | .int k i => .int k i
 | .float k i => .float k i
 | .string s => .string s
 | .pointer none => .pointer none
 | .pointer (some ⟨b,off,none⟩)=>cond (Nat.blt b n) (.pointer (some ⟨b,off,none⟩)) bot
 | .slice none 0 0 => .slice none 0 0
 | .slice (some _) 0 0 => .slice (some ⟨0,0,none⟩) 0 0
 | .slice (some ⟨b,off,none⟩) l c=>cond (Nat.blt b n && Nat.ble l c) (.slice (some ⟨b,off,none⟩) l 0) bot
 | .nilFunc => .nilFunc
 | .nilIface => .nilIface
 | .map none => .map none
 | _=>bot
def Eh (f:Nat->Option xE):Nat->Tr xE
 | 0 => .e
 | n + 1=>(Eh f n).set n (f n)
theorem BV (f:Nat->Option xE) (n k:Nat):(Eh f n).get k=if k < n then f k else none:=by
 induction n with
 | zero=>simp [Eh]
 | succ n ih=>
   rw [Eh,Tr.yb,ih]
   by_cases h:k=n
   ·subst h;rw [if_pos rfl,if_pos (by omega)]
   ·rw [if_neg h]
    by_cases h2:k < n
    ·rw [if_pos h2,if_pos (by omega)]
    ·rw [if_neg h2,if_neg (by omega)]
def Jm (P:Program) (w:World):yN:=⟨max w.heap.size P.globals.size + 1,fun b=>match w.heap[b]? with
 | some (.cells cs t _)=>some ⟨b,0,cs.size,P.cellsOf t⟩
 | _=>some ⟨b,0,0,1⟩⟩
theorem dt (P:Program) (w:World) (b:Nat):∃ pl,(Jm P w).m b=some pl/\pl.c=b/\pl.base=0:=by
 unfold Jm
 simp only
 split
 ·exact ⟨_,rfl,rfl,rfl⟩
 ·exact ⟨_,rfl,rfl,rfl⟩
theorem IE (P:Program) (w:World) {v:Value} (h:cellOk v=true):zK (Jm P w) (ID w.heap.size v) v:=by
 have un:(∀ b,v ≠ .bool b)->zK (Jm P w) bot v:=fun hb => .t7 (by
  cases v with
  | bool b=>exact absurd rfl (hb b)
  | agg _=>cases h
  | tuple _=>cases h
  | _=>rfl)
 have lt:∀ {b:Nat},Nat.blt b w.heap.size=true->b < (Jm P w).next:=fun {b} hb=>by
  have h1:b < w.heap.size:=by simpa [aaR] using hb
  show b < max w.heap.size P.globals.size + 1
  omega
 unfold ID
 split
 ·exact .bool _
 ·exact .int _ _
 ·exact .float _ _
 ·exact .string _
 ·exact .ptrNil
 ·rename_i b off
  cases hb:Nat.blt b w.heap.size with
  | true=>
    obtain ⟨pl,hm,hc,h0⟩:=dt P w b
    have:=zK.ptr (ρ:=Jm P w) (off:=off) (lt hb) hm
    rw [hc,h0,aav] at this
    exact this
  | false=>exact un (fun b h=>by cases h)
 ·exact .sliceNil _
 ·exact .sliceOut (show 0 < max w.heap.size P.globals.size + 1 by omega) (by decide)
 ·rename_i b off l c hne
  cases hb:Nat.blt b w.heap.size && Nat.ble l c with
  | true=>
    obtain ⟨pl,hm,hc,h0⟩:=dt P w b
    simp only [aac] at hb
    have:=zK.slice (ρ:=Jm P w) (off:=off) (c:=0) (lt hb.1) hm (aaA hb.2) (fun h=>absurd rfl h)
    rw [hc,h0,aav] at this
    exact this
  | false=>exact un (fun b h=>by cases h)
 ·exact .nilFunc
 ·exact .nilIface
 ·exact .mapNil
 ·rename_i h1 h2 h3 h4 h5 h6 h7 h8 h9 h10 h11 h12
  exact un (fun b h=>h1 b h)
theorem sI (P:Program) (w:World):∀ v:Value,∃ x,zK (Jm P w) x v
 | .agg a=>by
   have h:∀ i:Fin a.size,∃ x,zK (Jm P w) x a[i]:=fun i=>sI P w a[i]
   obtain ⟨f,hf⟩:=Classical.axiomOfChoice h
   refine ⟨.agg (Array.ofFn f),.agg (by simp) (fun i x y hx hy => ?_)⟩
   have hi:i < a.size:=by
    rcases aar i a.size with q | q
    ·exact q
    ·rw [aaF q] at hy;cases hy
   rw [aaG hi] at hy
   simp only [aaa] at hy
   subst hy
   rw [aaG (by simpa using hi)] at hx
   simp only [aaa,Array.getElem_ofFn] at hx
   subst hx
   exact hf ⟨i,hi⟩
 | .tuple a=>by
   have h:∀ i:Fin a.size,∃ x,zK (Jm P w) x a[i]:=fun i=>sI P w a[i]
   obtain ⟨f,hf⟩:=Classical.axiomOfChoice h
   refine ⟨.tuple (Array.ofFn f),.tuple (by simp) (fun i x y hx hy => ?_)⟩
   have hi:i < a.size:=by
    rcases aar i a.size with q | q
    ·exact q
    ·rw [aaF q] at hy;cases hy
   rw [aaG hi] at hy
   simp only [aaa] at hy
   subst hy
   rw [aaG (by simpa using hi)] at hx
   simp only [aaa,Array.getElem_ofFn] at hx
   subst hx
   exact hf ⟨i,hi⟩
 | .bool b=>⟨_,.bool b⟩
 | .int _ _ | .float _ _ | .complex _ _ _ | .string _ | .pointer _ | .slice _ _ _ | .map _ | .nilFunc | .func _ _ _ | .nilIface | .iface _ _ | .chan _=>⟨bot,.t7 rfl⟩
 termination_by v=>SizeOf.sizeOf v
 decreasing_by
  all_goals
   have:=Array.sizeOf_lt_of_mem (Array.getElem_mem i.2)
   simp only [Value.agg.sizeOf_spec,Value.tuple.sizeOf_spec]
   simp only [Fin.getElem_fin] at this ⊢
   omega
def V4 (P:Program) (w:World) (v:Value):Value:=if cellOk v=true then ID w.heap.size v else Classical.choose (sI P w v)
theorem bX (P:Program) (w:World) (v:Value):zK (Jm P w) (V4 P w v) v:=by
 unfold V4
 split
 ·rename_i h;exact IE P w h
 ·exact Classical.choose_spec (sI P w v)
theorem absC_ok {w:World} {v:Value} (h:cellOk v=true):V4 P w v=ID w.heap.size v:=if_pos h
def IC (P:Program) (w:World) (b:Nat):Option xE:=match w.heap[b]? with
 | some (.cells cs t _)=>some (.cells (cs.toList.map (V4 P w)) t)
 | _=>none
def absH (P:Program) (w:World):za:=⟨Eh (IC P w) w.heap.size,max w.heap.size P.globals.size + 1,max w.heap.size P.globals.size + 1⟩
theorem mF {w:World} {b:Nat} {o:xE} (h:(absH P w).get b=some o):b < w.heap.size /\ ∃ cs t fz,w.heap[b]? = some (.cells cs t fz)/\o = .cells (cs.toList.map (V4 P w)) t:=by
 have h2:(Eh (IC P w) w.heap.size).get b=some o:=h
 rw [BV] at h2
 split at h2
 case isFalse=>cases h2
 rename_i hb
 refine ⟨hb,?_⟩
 unfold IC at h2
 split at h2
 ·rename_i cs t fz hw
  simp only [aaa] at h2
  exact ⟨cs,t,fz,hw,h2.symm⟩
 ·cases h2
theorem absH_get {w:World} {b:Nat} {cs:Array Value} {t:TypeId} {fz:Nat × Nat} (h:w.heap[b]? = some (.cells cs t fz)):(absH P w).get b=some (.cells (cs.toList.map (V4 P w)) t):=by
 have hb:b < w.heap.size:=YG h
 show (Eh (IC P w) w.heap.size).get b=_
 rw [BV,if_pos hb]
 unfold IC
 rw [h]
theorem Co (P:Program) (w:World):Rel P (Jm P w) (absH P w) w:=by
 refine ⟨rfl,aah _,fun b o h => ?_,fun b o h => ?_,fun b1 b2 o1 o2 p1 p2 _ _ h1 h2 e => ?_,abd (Nat.le_max_right _ _),fun b pl _ h => ?_⟩
 ·have:=(mF h).1
  show b < max w.heap.size P.globals.size + 1
  omega
 ·obtain ⟨hb,cs,t,fz,hw,rfl⟩:=mF h
  refine ⟨⟨b,0,cs.size,P.cellsOf t⟩,by simp only [Jm,hw],?_⟩
  refine ⟨cs,fz,hw,rfl,⟨rfl,Nat.zero_mod _⟩,by simp,fun hd => ?_,fun i x hx => ?_⟩
  ·have hd:max w.heap.size P.globals.size + 1<=b:=of_decide_eq_true hd
   omega
  ·simp only [aap,aao] at hx
   obtain ⟨y,hy,rfl⟩:=hx
   exact ⟨y,by simpa using hy,bX P w y⟩
 ·obtain ⟨q1,a1,b1,c1⟩:=dt P w b1
  obtain ⟨q2,a2,b2,c2⟩:=dt P w b2
  rw [h1] at a1;rw [h2] at a2
  cases a1;cases a2
  omega
 ·obtain ⟨q1,a1,b1,c1⟩:=dt P w b
  rw [h] at a1
  cases a1
  exact ⟨b1,c1⟩
theorem Calls_of_TCW {f:FuncId} {args vs:List Value} {v:Value} (w:World) (ha:xf (Jm P w) args vs) (hv:fy v=true) (ht:TC P f args (absH P w) (fun v1 _=>v1=v)) :
  Calls P f vs.toArray w fun e w'=>e = .returned v/\RowKit.Below w.heap.size w w':=by
 refine (ht _ w vs (Co P w) ha).mono fun e w' => ?_
 rintro ⟨v1,v',h1,ρ',rfl,rfl,st,hvr⟩
 refine ⟨by rw [HG hv hvr],st.os,st.tape,st.output,st.size,fun k hk=>st.frame k hk ?_⟩
 rintro ⟨b,o,pl,hb,hro,_⟩
 have h1:=(mF hb).1
 have h2:max w.heap.size P.globals.size + 1<=b:=hro
 omega
end
noncomputable section
variable {P:Program}
theorem CR {f:FuncId} {v:Value} {m:Nat} {tabs:List (Nat × List Value)} (hv:fy v=true) (hn:P.globals.size<=m) (hfl:∀ x,x ∈ tabs->x.1 < m/\x.1 < P.globals.size/\x.2.all flat=true) (ht:TC P f [] (tX m tabs) (fun v1 _=>v1=v)) {h:za}
  (hh:∀ x,x ∈ tabs->∃ c t,h.get x.1=some (.cells c t) /\ ∀ (i:Nat) y,x.2[i]? = some y->c[i]? = some y):TC P f [] h (fun v1 h1=>v1=v/\h1=h):=by
 intro ρ w cargs hr hvl
 have hT:∀ x,x ∈ tabs->x.1 < m/\x.2.all flat=true/\Ab w x.1 x.2:=by
  intro x hx
  obtain ⟨f1,f2,f3⟩:=hfl x hx
  refine ⟨f1,f3,?_⟩
  obtain ⟨c,t,hc,hce⟩:=hh x hx
  obtain ⟨pl,hm,cs,fz,h1,h2,h3,h4,h5,h6⟩:=hr.ok x.1 _ hc
  obtain ⟨g1,g2⟩:=hr.Zg x.1 pl f2 hm
  refine ⟨cs,t,fz,by rw [<- g1];exact h1,fun i y hy => ?_⟩
  obtain ⟨z,hz,hzz⟩:=h6 i y (hce i y hy)
  simp only [g2,aav] at hz
  rw [hz]
  simp only [aas] at f3
  rw [kJ hzz (f3 y (aaq hy))]
 refine (ht _ w cargs (D9 P w m tabs hn hT) ?_).mono fun e w' => ?_
 ·cases hvl.vp;exact .nil _
 rintro ⟨v1,v',h1,ρ',rfl,rfl,st,hvr⟩
 have hsame:∀ c,c < w.heap.size->w'.heap[c]? = w.heap[c]?:=fun c hc=>st.frame c hc (by
  rintro ⟨b,o,pl,hb,hro,_⟩
  obtain ⟨c',hc',_⟩:=aC hb
  have h1:=(hfl _ hc').1
  have h2:m<=b:=hro
  omega)
 exact ⟨v1,v',h,ρ,rfl,⟨rfl,rfl⟩,⟨yN.le_refl _,hr.grow hsame,rfl,st.os,st.tape,st.output,st.size,fun c hc _=>hsame c hc,fun c _ hm=>hm⟩,FI hvr hv ρ⟩
end
noncomputable section
variable {P:Program}
section
variable {h:za} {t e:TypeId} {cs:List Value} {k:IntKind}
end
section
variable {H:Type} {enc:TypeId × Value->H} {w:World} {held:Bool}
theorem Iz (k:IntKind) (i:Int):V4 P w (.int k i) = .int k i:=by rw [absC_ok rfl];rfl
theorem GF (b:Bool):V4 P w (.bool b) = .bool b:=by rw [absC_ok rfl];rfl
theorem Bd (s:ByteArray):V4 P w (.string s) = .string s:=by rw [absC_ok rfl];rfl
theorem IA:V4 P w (.slice none 0 0) = .slice none 0 0:=by rw [absC_ok rfl];rfl
theorem IB (a:Addr):V4 P w (.slice (some a) 0 0) = .slice (some ⟨0,0,none⟩) 0 0:=by rw [absC_ok rfl];rfl
theorem Dg {b off len cap:Nat} (h0:0 < cap) (hl:len<=cap) (hb:b < w.heap.size):V4 P w (.slice (some ⟨b,off,none⟩) len cap) = .slice (some ⟨b,off,none⟩) len 0:=by
 rw [absC_ok rfl]
 have h1:(Nat.blt b w.heap.size && Nat.ble len cap)=true:=by simp [aaR,hb,hl]
 obtain ⟨c,rfl⟩:∃ c,cap=c + 1:=⟨cap - 1,by omega⟩
 simp only [ID,h1,cond_true]
theorem BA {base:Nat} {a:Addr} {n:Nat} {l:List Value} (h:w.cells? base a n=some l) (h0:0 < n):∃ cs t fz,w.heap[a.block]? = some (.cells cs t fz)/\a.spot=none/\a.off + n<=cs.size/\l=(cs.toList.drop a.off).take n:=by
 obtain ⟨_,hl,hc⟩:=World.cells?_some h
 have hat:∀ i,i < n->∃ cs t fz,w.heap[a.block]? = some (.cells cs t fz)/\(i=0->a.spot=none)/\cs[a.off + i]? = l[i]? /\ a.off + i < cs.size:=by
  intro i hi
  have h1:=hc i (by omega)
  have hb:(a.add i).block=a.block:=by unfold Addr.add;split <;> rfl
  have ho:(a.add i).off=a.off + i:=by unfold Addr.add;split <;> simp_all
  unfold World.cell? at h1
  rw [hb,ho] at h1
  have hli:∃ v,l[i]? = some v:=⟨l[i],aab (by omega)⟩
  obtain ⟨v,hv⟩:=hli
  split at h1
  ·rename_i cs t fz hw
   refine ⟨cs,t,fz,hw,fun e => ?_,?_,?_⟩
   ·subst e
    have:a.add 0=a:=by unfold Addr.add;simp
    rw [this] at h1
    cases hs:a.spot with
    | none=>rfl
    | some x=>rw [hs] at h1;simp at h1;rw [h1] at hv;cases hv
   ·split at h1
    ·rw [hv] at h1;cases h1
    ·exact h1
   ·split at h1
    ·rw [hv] at h1;cases h1
    ·rw [hv] at h1
     rcases aar (a.off + i) cs.size with q | q
     ·exact q
     ·rw [aaF q] at h1;cases h1
  ·rw [hv] at h1;cases h1
 obtain ⟨cs,t,fz,hw,hs,_⟩:=hat 0 h0
 refine ⟨cs,t,fz,hw,hs rfl,?_,?_⟩
 ·obtain ⟨cs',t',fz',hw',_,_,hlt⟩:=hat (n - 1) (by omega)
  rw [hw] at hw'
  cases hw'
  omega
 ·apply abe
  intro i
  by_cases hi:i < n
  ·obtain ⟨cs',t',fz',hw',_,he,_⟩:=hat i hi
   rw [hw] at hw'
   cases hw'
   rw [<- he,aaL hi,aaN]
   simp
  ·rw [aaj (by omega),aaj (by simp;omega)]
end
end
noncomputable section
variable {P:Program}
def sH (P:Program) (w:World):Value->Value
 | .agg a => .agg (a.map (V4 P w))
 | v=>V4 P w v
theorem Iy (P:Program) (w:World) (v:Value):zK (Jm P w) (sH P w v) v:=by
 unfold sH
 split
 ·rename_i a
  refine .agg (by simp) (fun i x y hx hy => ?_)
  simp only [Array.getElem?_map,hy,abz,aaa] at hx
  subst hx
  exact bX P w y
 ·exact bX P w _
def VE:Value->Bool
 | .agg _=>false
 | _=>true
theorem gz {w:World} {v:Value} (h:VE v=true):VE (V4 P w v)=true:=by
 have:=bX P w v
 cases v with
 | agg=>cases h
 | _=>
   generalize V4 P w _=x at this
   cases this <;> rfl
theorem Xu {v:Value} (h:VE v=true):v.cells.toList = [v]:=by
 cases v <;> first | rfl | cases h
theorem Df (P:Program) (w:World) (v:Value):(sH P w v).cells.toList=v.cells.toList.map (V4 P w):=by
 cases hv:VE v with
 | false=>cases v <;> first | (simp [sH,Value.cells];done) | cases hv
 | true=>
   have e:sH P w v=V4 P w v:=by cases v <;> first | rfl | cases hv
   rw [e,Xu hv,Xu (gz hv)]
   rfl
theorem Bc {w:World} {v:Value} (h:VE v=true):VE (sH P w v)=true:=by
 have e:sH P w v=V4 P w v:=by cases v <;> first | rfl | cases h
 rw [e]
 exact gz h
def isRow (P:Program) (t:TypeId):Bool:=match P.underlying t with
 | some (.struct _) | some (.array _ _)=>true
 | _=>false
theorem agg_of {a:Value} {l:List Value} (h:a.cells.toList=l) (hl:l.length ≠ 1):a = .agg l.toArray:=by
 cases ha:VE a with
 | true=>rw [Xu ha] at h;subst h;exact absurd rfl hl
 | false=>
   cases a with
   | agg c=>subst h;rfl
   | _=>cases ha
theorem tN {w:World} {r:Reach} {base:Nat} {t:TypeId} {v:Value} (h:Value.okWide P w r base t v) (hr:isRow P t=false):VE v=true:=by
 cases v with
 | agg c=>
   exfalso
   unfold isRow at hr
   unfold Value.okWide at h
   split at hr
   ·cases hr
   ·cases hr
   ·rename_i n1 n2
    split at h
    ·rename_i fs hu;exact n1 _ hu
    ·rename_i m e hu;exact n2 _ _ hu
    ·unfold Cell.okWide at h
     split at h <;> first | (rename_i hh;cases hh;done) | skip
     all_goals first
      | (rename_i h2 h3;cases h3;done)
      | skip
     unfold Cell.ok at h
     split at h <;> first | exact h | (rename_i h2 h3;cases h3)
 | _=>rfl
section
variable {H:Type} {enc:TypeId × Value->H} {w:World} {held:Bool}
def kidsOk (P:Program) (l:List TypeId):Bool:=l.all fun t=>match P.underlying t with
 | some (.pointer e)=>l.contains e
 | some (.slice e)=>l.contains e && Nat.blt 0 (P.cellsOf e)
 | some (.array _ _)=>false
 | some (.map _ _)=>false
 | some (.struct fs)=>(fs.toList.all fun f=>l.contains f.type) && Nat.beq (P.cellsOf t) ((fs.toList.map fun f=>P.cellsOf f.type).sum) && (List.range fs.size).all fun j=>match fs.toList[j]? with
   | some f=>Nat.beq f.offset ((fs.toList.take j).map fun f=>P.cellsOf f.type).sum
   | none=>true
 | _=>true
theorem NB {l:List TypeId} (h:kidsOk P l=true):Kids P (· ∈ l) /\ ∀ {t e:TypeId},t ∈ l->P.underlying t=some (.slice e)->0 < P.cellsOf e:=by
 unfold kidsOk at h
 rw [aas] at h
 refine ⟨⟨fun ht hu => ?_,fun ht hu => ?_,fun ht hu => ?_,fun ht hu => ?_,fun ht hu => ?_⟩,fun ht hu => ?_⟩
 ·have:=h _ ht;rw [hu] at this;simpa using this
 ·have:=h _ ht;rw [hu] at this;simp only [aac] at this;simpa using this.1
 ·have:=h _ ht;rw [hu] at this;cases this
 ·rename_i t fs
  have:=h _ ht
  rw [hu] at this
  simp only [aac,aas] at this
  obtain ⟨⟨h1,h2⟩,h3⟩:=this
  refine ⟨fun f hf=>by simpa using h1 f hf,aam h2,fun j f hj => ?_⟩
  have hlt:j < fs.size:=by
   rcases aar j fs.toList.length with q | q
   ·simpa using q
   ·rw [aaj q] at hj;cases hj
  have:=h3 j (by simpa using hlt)
  rw [hj] at this
  exact aam this
 ·have:=h _ ht;rw [hu] at this;cases this
 ·have:=h _ ht;rw [hu] at this;simp only [aac] at this;simpa [aaR] using this.2
theorem Ec {w w':World} (hb:RowKit.Below w.heap.size w w') {p:MemPlace} (hp:p.block < w.heap.size):w.sameAt w' p:=by
 cases p with
 | cell b off=>
   have hk:=hb.block b hp
   show w'.cell? _=w.cell? _
   unfold World.cell?
   simp only [hk]
 | map b=>exact hb.block b hp
theorem args_stay {l:List TypeId} (hk:kidsOk P l=true) {w':World} (hb:RowKit.Below w.heap.size w w') {sp:Nat->Bool}:∀ (ts:List TypeId) (vs:List Value) (ds:List (DataW H)) (p:List MemPlace),DataW.TrodAll enc P w 0 (fun _=>true) true ts vs ds p ->
  (∀ t,t ∈ ts->t ∈ l)->(∀ x,x ∈ p->x.block < w.heap.size)->(∀ x,x ∈ p->sp x.block=true)->DataW.TrodAll enc P w' 0 sp true ts vs ds p
 | [],[],[],p,h,ht,hl,hs=>h
 | t :: ts,v :: vs,d :: ds,p,h,ht,hl,hs=>by
   obtain ⟨p1,q1,⟨n,h1⟩,h2,rfl⟩:=h
   obtain ⟨K,hsz⟩:=NB hk
   refine ⟨p1,q1,⟨n,?_⟩,args_stay hk hb ts vs ds q1 h2 (fun t h=>ht t (by simp [h])) (fun x hx=>hl x (by simp [hx])) (fun x hx=>hs x (by simp [hx])),rfl⟩
   exact DataW.trod_stays K hsz (fun e=>by cases e) (ht t (by simp)) h1 (fun x hx=>Ec hb (hl x (by simp [hx]))) (fun x hx=>hs x (by simp [hx]))
 | [],_ :: _,_,p,h,_,_,_=>by cases h
 | [],[],_ :: _,p,h,_,_,_=>by cases h
 | _ :: _,[],_,p,h,_,_,_=>by cases h
 | _ :: _,_ :: _,[],p,h,_,_,_=>by cases h
end
end
noncomputable section
variable {P:Program}
def RW (P:Program) (h:za):Nat->TypeId->List Value->Prop
 | 0,_,_=>False
 | n + 1,t,cs=>match P.underlying t with
   | some .bool => ∃ b,cs = [.bool b]
   | some (.int k) => ∃ i,cs = [.int k i]/\(Lit.int k i).wf=true
   | some .string => ∃ s:ByteArray,cs = [.string s]/\s.size<=maxLen
   | some (.slice e)=>0 < P.cellsOf e->cs = [.slice none 0 0] \/ ∃ b off len,cs = [.slice (some ⟨b,off,none⟩) len 0]/\len * P.bytesOf e<=reachBytes/\(0 < len->∃ c t',h.get b=some (.cells c t') /\
     ∀ i,i < len->off + i * P.cellsOf e + P.cellsOf e<=c.length/\RW P h n e ((c.drop (off + i * P.cellsOf e)).take (P.cellsOf e)))
   | some (.struct fs)=>cs.length=P.cellsOf t /\ ∀ f,f ∈ fs->RW P h n f.type ((cs.drop f.offset).take (P.cellsOf f.type))
   | _=>True
def Qy (P:Program) (h:za) (t:TypeId) (cs:List Value):Prop := ∃ n,RW P h n t cs
section
variable {h:za} {t e:TypeId} {cs:List Value} {k:IntKind}
theorem rw_bool (hu:P.underlying t=some .bool) (r:Qy P h t cs):∃ b,cs = [.bool b]:=by
 obtain ⟨n,r⟩:=r
 cases n with
 | zero=>exact r.elim
 | succ n=>simpa only [RW,hu] using r
theorem rw_int (hu:P.underlying t=some (.int k)) (r:Qy P h t cs):∃ i,cs = [.int k i]/\(Lit.int k i).wf=true:=by
 obtain ⟨n,r⟩:=r
 cases n with
 | zero=>exact r.elim
 | succ n=>simpa only [RW,hu] using r
theorem HD (hu:P.underlying t=some .string) (r:Qy P h t cs):∃ s:ByteArray,cs = [.string s]/\s.size<=maxLen:=by
 obtain ⟨n,r⟩:=r
 cases n with
 | zero=>exact r.elim
 | succ n=>simpa only [RW,hu] using r
theorem nj (hu:P.underlying t=some (.slice e)) {sz bz:Nat} (hs:P.cellsOf e=sz) (hb:P.bytesOf e=bz) (h0:0 < sz) (r:Qy P h t cs):cs = [.slice none 0 0] \/ ∃ b off len,cs = [.slice (some ⟨b,off,none⟩) len 0]/\len * bz<=reachBytes /\
  (0 < len->∃ c t',h.get b=some (.cells c t') /\ ∀ i,i < len->off + i * sz + sz<=c.length/\Qy P h e ((c.drop (off + i * sz)).take sz)):=by
 subst hs hb
 obtain ⟨n,r⟩:=r
 cases n with
 | zero=>exact r.elim
 | succ n=>
   simp only [RW,hu] at r
   rcases r h0 with r | ⟨b,off,len,e1,e2,e3⟩
   ·exact .inl r
   ·refine .inr ⟨b,off,len,e1,e2,fun hl => ?_⟩
    obtain ⟨c,t',g,hc⟩:=e3 hl
    exact ⟨c,t',g,fun i hi=>⟨(hc i hi).1,n,(hc i hi).2⟩⟩
theorem fw {fs:Array Field} (hu:P.underlying t=some (.struct fs)) (r:Qy P h t cs):cs.length=P.cellsOf t /\ ∀ f,f ∈ fs->Qy P h f.type ((cs.drop f.offset).take (P.cellsOf f.type)):=by
 obtain ⟨n,r⟩:=r
 cases n with
 | zero=>exact r.elim
 | succ n=>
   simp only [RW,hu] at r
   exact ⟨r.1,fun f hf=>⟨n,r.2 f hf⟩⟩
end
theorem KD {H:Type} {e:TypeId}:∀ {l:List (DataW H)} {i:Nat} {d:DataW H},l[i]? = some d->∀ n ∈ d.weights P e,n ∈ DataW.weightsAll P e l
 | d0 :: l,0,d,hd,n,hn=>by
   simp only [aaf,aaa] at hd
   subst hd
   simp only [DataW.weightsAll,aaP]
   exact Or.inl hn
 | d0 :: l,i + 1,d,hd,n,hn=>by
   simp only [aal] at hd
   simp only [DataW.weightsAll,aaP]
   exact Or.inr (KD hd n hn)
 | [],_,_,hd,_,_=>by simp at hd
section
variable {H:Type} {enc:TypeId × Value->H} {w:World} {held:Bool}
theorem aM {sp:Nat->Bool} (hsp:∀ b,sp b=true):∀ (n:Nat) (t:TypeId) (cs:List Value) (x:DataW H × List MemPlace),DataW.trod enc P w 0 sp held n t cs=some x->(∀ m ∈ x.1.weights P t,m<=reachBytes)->RW P (absH P w) n t (cs.map (V4 P w))
 | 0,t,cs,x,h,_=>by simp [DataW.trod] at h
 | n + 1,t,cs,x,h,hwt=>by
   unfold RW
   split
   ·rename_i hu
    obtain ⟨b,rfl,_⟩:=DataW.trod_bool hu h
    exact ⟨b,by simp only [abv,acD,GF]⟩
   ·rename_i k hu
    obtain ⟨i,rfl,_,hw⟩:=DataW.trod_int hu h
    exact ⟨i,by simp only [abv,acD,Iz],hw⟩
   ·rename_i hu
    obtain ⟨s,rfl,_,hw⟩:=DataW.trod_string hu h
    exact ⟨s,by simp only [abv,acD,Bd],hw⟩
   ·rename_i e hu
    intro hz
    rcases DataW.trod_slice hu h with ⟨rfl,_⟩ | ⟨a,len,cap,elems,rest,m,hm,rfl,hx,_,hl,hmx,hel,hat,hrest,_⟩
    ·exact .inl (by simp only [abv,acD,IA])
    ·cases hm
     right
     have hr:=hrest (hsp _)
     have hwt2:∀ m ∈ (elems.length + rest.length) * P.bytesOf e :: (DataW.weightsAll P e (elems.map (·.1)) ++ DataW.weightsAll P e (rest.map (·.1))),m<=reachBytes:=by
      intro m hm'
      apply hwt
      rw [hx]
      simp only [DataW.weights,hu,aak]
      exact hm'
     have all:∀ i,i < cap->∃ l y,w.cells? 0 (a.add (i * P.cellsOf e)) (P.cellsOf e)=some l/\DataW.trod enc P w 0 sp held n e l=some y:=by
      intro i hi
      by_cases h1:i < len
      ·have:=hat i h1
       rw [aab (by omega)] at this
       simp only [abV] at this
       obtain ⟨l,a1,a2⟩:=this
       exact ⟨l,_,a1,a2⟩
      ·have:=hr.2 (i - len) (by omega)
       rw [aab (by omega),show len + (i - len)=i by omega] at this
       simp only [abV] at this
       obtain ⟨l,a1,a2⟩:=this
       exact ⟨l,_,a1,a2⟩
     by_cases hcap:cap=0
     ·have hlen:len=0:=by omega
      subst hcap hlen
      exact ⟨0,0,0,by simp only [abv,acD,IB],by rw [acC];exact aa0 _,fun q=>absurd q (by decide)⟩
     ·· obtain ⟨l0,y0,c0,_⟩:=all 0 (by omega)
        have ha0:a.add (0 * P.cellsOf e)=a:=by rw [acC];unfold Addr.add;simp
        rw [ha0] at c0
        obtain ⟨cc,t',fz,hw,hs,_,_⟩:=BA c0 hz
        have hb:a.block < w.heap.size:=YG hw
        obtain ⟨ab,ao,as⟩:=a
        simp only at hs hb hw
        subst hs
        refine ⟨ab,ao,len,by simp only [abv,acD,Dg (Nat.pos_of_ne_zero hcap) hl hb],aaH (abu _ (by omega)) (hwt2 _ acq),fun _=>⟨_,t',absH_get hw,fun i hi => ?_⟩⟩
        have hati:=hat i hi
        rw [aab (by omega)] at hati
        simp only [abV] at hati
        obtain ⟨l,c1,c2⟩:=hati
        have hmy:∀ m ∈ (elems[i]'(by omega)).1.weights P e,m<=reachBytes:=fun m hm'=>hwt2 m (acb _ (List.mem_append_left _ (KD (i:=i) (by rw [aap,aab (by omega)];rfl) m hm')))
        obtain ⟨cc',t2,fz2,hw2,hs2,hle,rfl⟩:=BA c1 hz
        have hblk:(Addr.add ⟨ab,ao,none⟩ (i * P.cellsOf e)).block=ab:=by unfold Addr.add;split <;> rfl
        have hoff:(Addr.add ⟨ab,ao,none⟩ (i * P.cellsOf e)).off=ao + i * P.cellsOf e:=by unfold Addr.add;split <;> simp_all
        rw [hblk,hw] at hw2
        cases hw2
        rw [hoff] at hle c2
        refine ⟨by simpa using hle,?_⟩
        have:=aM hsp n e _ _ c2 hmy
        rw [List.map_take,List.map_drop] at this
        exact this
   ·rename_i fs hu
    obtain ⟨xs,m,hm,hx,hl,hlen,hf⟩:=DataW.trod_struct hu h
    cases hm
    refine ⟨by simpa using hl,fun f hfm => ?_⟩
    obtain ⟨i,hi,e⟩:=Array.getElem_of_mem hfm
    have:=hf i f (by rw [aaG hi,e])
    rw [aab (by omega)] at this
    have hmy:∀ m ∈ (xs[i]'(by omega)).1.weights P f.type,m<=reachBytes:=fun m hm'=>hwt m (by
     rw [hx]
     simp only [DataW.weights,hu]
     exact DataW.weights_mem_each (j:=i) (by rw [aap,Array.getElem?_toList,aaG hi,e];rfl) (by rw [aap,aab (by omega)];rfl) m hm')
    have:=aM hsp n f.type _ _ this hmy
    rw [List.map_take,List.map_drop] at this
    exact this
   ·trivial
theorem ir {ts:List TypeId} {t:TypeId} {ds:List (DataW H)} {d:DataW H} (h:∀ m ∈ DataW.weightsEach P (t :: ts) (d :: ds),m<=reachBytes):(∀ m ∈ d.weights P t,m<=reachBytes) /\ ∀ m ∈ DataW.weightsEach P ts ds,m<=reachBytes:=by
 simp only [DataW.weightsEach,aaP] at h
 exact ⟨fun m hm=>h m (.inl hm),fun m hm=>h m (.inr hm)⟩
def RWs (P:Program) (h:za):List TypeId->List Value->Prop
 | [],[]=>True
 | t :: ts,a :: as'=>(Qy P h t a.cells.toList/\(isRow P t=false->VE a=true))/\RWs P h ts as'
 | _,_=>False
theorem rw_one {h:za} {t:TypeId} {a:Value} (hr:isRow P t=false) (r:Qy P h t a.cells.toList/\(isRow P t=false->VE a=true)):Qy P h t [a]:=by
 have:=r.1
 rwa [Xu (r.2 hr)] at this
theorem args_rw {sp:Nat->Bool} (hsp:∀ b,sp b=true) {r:Reach} {base:Nat}:∀ (ts:List TypeId) (vs:List Value) (ds:List (DataW H)) (p:List MemPlace),DataW.TrodAll enc P w 0 sp held ts vs ds p ->
  (∀ (j:Nat) t v,ts[j]? = some t->vs[j]? = some v->Value.okWide P w r base t v)->(∀ m ∈ DataW.weightsEach P ts ds,m<=reachBytes)->xf (Jm P w) (vs.map (sH P w)) vs/\RWs P (absH P w) ts (vs.map (sH P w))
 | [],[],[],p,h,hv,_=>⟨.nil _,trivial⟩
 | t :: ts,v :: vs,d :: ds,p,h,hv,hm=>by
   obtain ⟨p1,q1,⟨n,h1⟩,h2,_⟩:=h
   obtain ⟨m1,m2⟩:=ir hm
   obtain ⟨a1,a2⟩:=args_rw hsp ts vs ds q1 h2 (fun j t v hj hv'=>hv (j + 1) t v (by simpa using hj) (by simpa using hv')) m2
   refine ⟨.cons (Iy P w v) a1,⟨⟨n,?_⟩,fun hr=>Bc (tN (hv 0 t v rfl rfl) hr)⟩,a2⟩
   rw [Df]
   exact aM hsp n t _ _ h1 m1
 | [],_ :: _,_,p,h,hv,_=>by cases h
 | [],[],_ :: _,p,h,hv,_=>by cases h
 | _ :: _,[],_,p,h,hv,_=>by cases h
 | _ :: _,_ :: _,[],p,h,hv,_=>by cases h
end
end
noncomputable section
variable {P:Program}
def zP:Value->Bool
 | .complex _ _ _=>true
 | _=>false
structure Le (r s:Env):Prop where
 size:r.size=s.size
 get:∀ i,zP (r.get i)=true\/r.get i=s.get i
theorem Le.refl (s:Env):Le s s:=⟨rfl,fun _ => .inr rfl⟩
theorem Le.trans {a b c:Env} (h:Le a b) (k:Le b c):Le a c:=⟨h.size.trans k.size,fun i=>by
 rcases h.get i with e | e
 ·exact .inl e
 ·rcases k.get i with f | f
  ·exact .inl (by rw [e];exact f)
  ·exact .inr (e.trans f)⟩
theorem Le.put {r s r1:Env} {d:Option Nat} {v u:Value} (h:Le r s) (hp:r.put d v=some r1) (hv:zP v=true\/v=u):∃ s1,s.put d u=some s1/\Le r1 s1:=by
 cases d with
 | none=>simp only [Env.put,aaa] at hp;subst hp;exact ⟨s,rfl,h⟩
 | some d=>
   simp only [Env.put] at hp ⊢
   obtain ⟨hc,hp⟩:=zv hp
   rw [h.size] at hc
   rw [hc]
   simp only [aaa] at hp
   subst hp
   refine ⟨_,rfl,⟨h.size,fun i => ?_⟩⟩
   rw [Env.yb,Env.yb]
   by_cases e:i=d
   ·rw [if_pos e,if_pos e];exact hv
   ·rw [if_neg e,if_neg e];exact h.get i
def ev (s:Env):Operand->Value
 | .tmp t=>s.get t
 | .const v=>cond (flat v) v bot
 | .global g => .pointer (some ⟨g,0,some 0⟩)
 | .func f => .func (.func f) #[] #[]
theorem T4 {r s:Env} (h:Le r s) (x:Operand):zP (ev r x)=true\/qP s x=some (ev r x):=by
 cases x with
 | tmp t=>rcases h.get t with e | e
          ·exact .inl e
          ·exact .inr (by simp only [qP,ev,e])
 | const v=>cases hf:flat v with
   | true=>exact .inr (by simp only [qP,ev,hf,cond_true])
   | false=>exact .inl (by simp only [ev,hf,cond_false];rfl)
 | global g=>exact .inr rfl
 | func f=>exact .inr rfl
theorem Zh {r s:Env} (h:Le r s) {x:Operand} (hb:zP (ev r x)=false):qP s x=some (ev r x):=by
 rcases T4 h x with e | e
 ·rw [e] at hb;cases hb
 ·exact e
def dC (s:Env):List Operand->List Value
 | []=>[]
 | x :: l=>ev s x :: dC s l
def yC:List Value->Bool
 | []=>true
 | v :: l=>cond (zP v) false (yC l)
theorem Qv {r s:Env} (h:Le r s):∀ {xs:List Operand},yC (dC r xs)=true->V5 s xs=some (dC r xs)
 | [],_=>rfl
 | x :: xs,hb=>by
   simp only [dC,yC] at hb
   cases hx:zP (ev r x) with
   | true=>rw [hx] at hb;cases hb
   | false=>
     rw [hx] at hb
     simp only [V5,dC,Zh h hx,Qv h hb]
def Nr (s:Env):List (Nat × Operand)->List (Nat × Value)
 | []=>[]
 | (i,x) :: l=>(i,ev s x) :: Nr s l
def MH:List (Nat × Value)->List Value
 | []=>[]
 | (_,v) :: l=>v :: MH l
theorem Po {r s:Env} (h:Le r s):∀ {ps:List (Nat × Operand)},yC (MH (Nr r ps))=true->Wb s ps=some (Nr r ps)
 | [],_=>rfl
 | (i,x) :: ps,hb=>by
   simp only [Nr,MH,yC] at hb
   cases hx:zP (ev r x) with
   | true=>rw [hx] at hb;cases hb
   | false=>
     rw [hx] at hb
     simp only [Wb,Nr,Zh h hx,Po h hb]
def Oo (s:Env):Option Operand->Option Value
 | none=>none
 | some x=>some (ev s x)
def Mh:Option Value->Bool
 | none=>true
 | some v => !zP v
theorem Sj {r s:Env} (h:Le r s) {x:Option Operand} (hb:Mh (Oo r x)=true):nL s x=some (Oo r x):=by
 cases x with
 | none=>rfl
 | some y=>
   simp only [Oo,Mh,aat] at hb
   simp only [nL,Oo,Zh h hb];rfl
def opt {α:Type} (x:Option α) (K:α->Prop):Prop:=match x with
 | some a=>K a
 | none=>False
@[congr] theorem Rh {α:Type} {x y:Option α} {K:α->Prop} (h:x=y):opt x K=opt y K:=by rw [h]
theorem zu {α:Type} (a:α) (K:α->Prop):opt (some a) K=K a:=rfl
theorem vY {α:Type} {x:Option α} {K:α->Prop} (h:opt x K):∃ a,x=some a/\K a:=by
 cases x with
 | none=>exact h.elim
 | some a=>exact ⟨a,rfl,h⟩
def zV (x:Option (Value × za)) (K:Value->za->Prop):Prop:=match x with
 | some (v,h)=>K v h
 | none=>False
@[congr] theorem PE {x y:Option (Value × za)} {K:Value->za->Prop} (h:x=y):zV x K=zV y K:=by rw [h]
theorem yI (v:Value) (h:za) (K:Value->za->Prop):zV (some (v,h)) K=K v h:=rfl
theorem jH {x:Option (Value × za)} {K:Value->za->Prop} (h:zV x K):∃ v g,x=some (v,g)/\K v g:=by
 cases x with
 | none=>exact h.elim
 | some a=>exact ⟨a.1,a.2,rfl,h⟩
def nw (h:za) (c:List Value) (t:TypeId) (K:Value->za->Prop):Prop:=K (.pointer (some ⟨h.next,0,none⟩)) (h.push (.cells c t))
def nb {α:Type} (l:List Value) (x:Option α):Option α:=cond (yC l) x none
theorem vT {α:Type} {l:List Value} {x:Option α} {a:α} (h:nb l x=some a):yC l=true/\x=some a:=zv h
def pk (c a b:Value):Option Value:=match c with
 | .bool true=>nb [a] (some a)
 | .bool false=>nb [b] (some b)
 | _=>none
def uk:Value->Option Value
 | .pointer (some a)=>some (.pointer (some a))
 | .func (.func f) a c=>some (.func (.func f) a c)
 | _=>none
def Wz (P:Program) (op:UnOp) (a:Value):Option Value:=cond (flat a) (fl (yi P (Op.unary op a))) none
def RG (P:Program) (t:TypeId) (a:Value):Option Value:=match yi P (Instr.makeInterface t (.bool true)) with
 | some _=>some (.iface t a)
 | none=>none
def MY (P:Program) (t:TypeId) (x:Value) (lo hi:Option Value) (h:za):Option Value:=match x with
 | .string str=>cond (Cd lo && Cd hi) (fl (yi P (Instr.sliceAt t (.string str) lo hi none))) none
 | v=>eL P t v lo hi h
def ON (P:Program) (t:TypeId) (x:Value) (f:Nat):Option Value:=match x with
 | .agg cs=>(match yi P (underlying t) with
   | some (.struct fields)=>(match fields[f]? with
     | some fd=>apart P fd.type cs.toList fd.offset
     | none=>none)
   | _=>none)
 | _=>none
def M9 (P:Program) (t:TypeId) (a b:Value):Option Value:=cond (flat a && flat b) (fl (yi P (Instr.index t a b))) none
def Wf (x:Value) (i:Nat):Option Value:=match x with
 | .tuple vs=>nb (vs.toList) vs[i]?
 | _=>none
def VJ (h:za):Prop:=(∀ b o,h.get b=some o->b < h.next)/\h.ro<=h.next
def DC (P:Program) (f:FuncId) (args:List Value) (h:za) (R:Value->za->Prop):Prop :=
 VJ h->∃ v h1,R v h1/\AF h h1/\TC P f args h (fun v' h'=>v'=v/\h'=h1)
def R4 (P:Program) (g:FuncId) (args:List Value) (h:za) (K:Value->za->Prop):Prop :=
 yC args=true/\((x9 P g=true/\DC P g args h K)\/zV (sR P g args h) K)
def NZ (P:Program) (L:Nat) (args:List Value) (h:za) (K:Value->za->Prop):Prop :=
 yC args=true/\(VJ h->∃ v h1,K v h1/\AF h h1/\TY P L args h (fun v' h'=>v'=v/\h'=h1))
def zH (P:Program) (f:Value) (args:List Value) (h:za) (K:Value->za->Prop):Prop:=match f with
 | .func (.func g) a c=>yC args=true/\R4 P g (a.toList ++ args ++ c.toList) h K
 | .func (.yield L) a c=>a = #[]/\c = #[]/\NZ P L args h K
 | _=>False
def mv (s:Env) (x:Operand) (h:za) (K:Value->za->Prop):Prop:=match x with
 | .tmp t=>K (s.get t) h
 | .const v=>cond (flat v) (K v h) False
 | .global g=>K (.pointer (some ⟨g,0,some 0⟩)) h
 | .func f=>K (.func (.func f) #[] #[]) h
def Mi (P:Program) (s:Env) (o:Oper) (h:za) (K:Value->za->Prop):Prop:=match o.op with
 | .move x | .assign x=>mv s x h K
 | .pick c a b=>opt (pk (ev s c) (ev s a) (ev s b)) fun v=>K v h
 | .box t x=>opt (nb [ev s x] (some (ev s x).cells.toList)) fun c=>nw h c t K
 | .alloc t=>opt (yV P t) fun z=>nw h z.cells.toList t K
 | .build t parts=>opt (nb (MH (Nr s parts.toList)) (yg P t (Nr s parts.toList))) fun v=>K v h
 | .buildSlice t len parts=>zV (nb (MH (Nr s parts.toList)) (zO P t len (Nr s parts.toList) h)) K
 | .load t a=>opt (zd P t (ev s a) h) fun v=>K v h
 | .store t a x=>opt (nb [ev s x] (zh P t (ev s a) (ev s x) h)) fun h'=>K undef h'
 | .nilCheck x=>opt (uk (ev s x)) fun v=>K v h
 | .binOp op t x y _=>opt (nb [ev s x,ev s y] (ze P op t x y (ev s x) (ev s y))) fun v=>K v h
 | .unOp op _ x=>opt (Wz P op (ev s x)) fun v=>K v h
 | .convert src dst x=>zV (nb [ev s x] (uf P src dst (ev s x) h)) K
 | .makeInterface t x=>opt (nb [ev s x] (RG P t (ev s x))) fun v=>K v h
 | .makeFunc (.func f) first captured=>opt (nb (dC s first.toList ++ dC s captured.toList) (some (Value.func (.func f) (dC s first.toList).toArray (dC s captured.toList).toArray))) fun v=>K v h
 | .makeSlice t l c=>zV (ZY P t (ev s l) (ev s c) h) K
 | .slice t x lo hi none=>opt (nb [ev s x] (cond (Mh (Oo s lo) && Mh (Oo s hi)) (MY P t (ev s x) (Oo s lo) (Oo s hi) h) none)) fun v=>K v h
 | .fieldAddr t x f=>opt (zb P t (ev s x) f) fun v=>K v h
 | .field t x f=>opt (ON P t (ev s x) f) fun v=>K v h
 | .indexAddr t x i=>opt (zw P t (ev s x) (ev s i)) fun v=>K v h
 | .index t x i=>opt (M9 P t (ev s x) (ev s i)) fun v=>K v h
 | .extract x i=>opt (Wf (ev s x) i) fun v=>K v h
 | .call { callee := .builtin b,args,argTypes }=>zV (nb (dC s args.toList) (zg P b argTypes.toList o.type (dC s args.toList) h)) K
 | .makeMap _ none=>K (V7 h).1 (V7 h).2
 | .lookup t x k ok=>opt (nb [ev s x,ev s k] (iz P t (ev s x) (ev s k) ok h)) fun v=>K v h
 | .mapUpdate t m k x=>opt (nb [ev s m,ev s k,ev s x] (Yw P t (ev s m) (ev s k) (ev s x) h)) fun h'=>K undef h'
 | .range t x=>zV (nb [ev s x] (eK P t (ev s x) h)) K
 | .next x str=>zV (nb [ev s x] (p9 P (ev s x) str h)) K
 | .entry x=>opt (nb [ev s x] (sO (ev s x) h)) fun v=>K v h
 | _=>False
theorem Wp {v:Value} (h:yC [v]=true):zP v=false:=by
 simp only [yC] at h;cases hb:zP v with | true=>rw [hb] at h;cases h | false=>rfl
theorem mY {v w:Value} (h:yC [v,w]=true):zP v=false/\zP w=false:=by
 simp only [yC] at h;cases hb:zP v with | true=>rw [hb] at h;cases h | false=>rw [hb] at h;exact ⟨rfl,Wp h⟩
theorem D2 {u v w:Value} (h:yC [u,v,w]=true):zP u=false/\zP v=false/\zP w=false:=by
 simp only [yC] at h;cases hb:zP u with | true=>rw [hb] at h;cases h | false=>rw [hb] at h;exact ⟨rfl,mY h⟩
theorem Hr {l m:List Value} (h:yC (l ++ m)=true):yC l=true/\yC m=true:=by
 induction l with
 | nil=>exact ⟨rfl,h⟩
 | cons v l ih=>
   simp only [abM,yC] at h ⊢
   cases hb:zP v with
   | true=>rw [hb] at h;cases h
   | false=>rw [hb] at h;exact ih h
theorem YH {h:za} {x:Option Value} {v:Value} (e:x=some v):one h x=some (v,h):=by rw [e];rfl
theorem Y9 {v:Value} (h:zP v=true):∃ k a b,v = .complex k a b:=by cases v <;> first | exact ⟨_,_,_,rfl⟩ | cases h
theorem B8 {r s:Env} (hl:Le r s) {x:Operand} {h:za} {K:Value->za->Prop} (hk:mv r x h K):∃ v u,qP s x=some u/\(zP v=true\/v=u)/\K v h:=by
 cases x with
 | tmp t=>exact ⟨_,_,rfl,hl.get t,hk⟩
 | const v=>
   simp only [mv] at hk
   cases hf:flat v with
   | true=>rw [hf] at hk;exact ⟨v,v,by simp only [qP,hf,cond_true],.inr rfl,hk⟩
   | false=>rw [hf] at hk;exact hk.elim
 | global g=>exact ⟨_,_,rfl,.inr rfl,hk⟩
 | func f=>exact ⟨_,_,rfl,.inr rfl,hk⟩
theorem kC {r s:Env} (hl:Le r s) {o:Oper} {h:za} {K:Value->za->Prop} (hk:Mi P r o h K) :
  ∃ v u h',Jt P s o h=some (u,h')/\(zP v=true\/v=u)/\K v h':=by
 have strict:∀ (x:Operand) {α:Type} (F:Value->Option α) {a:α},(∀ k p q,F (.complex k p q)=none)->F (ev r x)=some a->qP s x=some (ev r x):=by
  intro x α F a hF e
  refine Zh hl ?_
  cases hb:zP (ev r x) with
  | false=>rfl
  | true=>obtain ⟨k,p,q,e2⟩:=Y9 hb;rw [e2,hF] at e;cases e
 unfold Mi at hk
 unfold Jt
 split at hk <;> rename_i yF <;> simp only [yF]
 ·obtain ⟨v,u,e,hv,hk⟩:=B8 hl hk
  exact ⟨v,u,h,by rw [e];rfl,hv,hk⟩
 ·obtain ⟨v,u,e,hv,hk⟩:=B8 hl hk
  exact ⟨v,u,h,by rw [e];rfl,hv,hk⟩
 ·rename_i c a b
  obtain ⟨v,e,hk⟩:=vY hk
  have ec:=strict c (fun x=>pk x (ev r a) (ev r b)) (fun _ _ _=>rfl) e
  rw [ec]
  unfold pk at e
  split at e
  ·rename_i hc
   obtain ⟨n,e⟩:=vT e
   cases e
   rw [hc];simp only [Zh hl (Wp n)]
   exact ⟨_,_,h,rfl,.inr rfl,hk⟩
  ·rename_i hc
   obtain ⟨n,e⟩:=vT e
   cases e
   rw [hc];simp only [Zh hl (Wp n)]
   exact ⟨_,_,h,rfl,.inr rfl,hk⟩
  ·cases e
 ·obtain ⟨c,e,hk⟩:=vY hk
  obtain ⟨n,e⟩:=vT e
  cases e
  simp only [Zh hl (Wp n)]
  exact ⟨_,_,_,rfl,.inr rfl,hk⟩
 ·obtain ⟨z,e,hk⟩:=vY hk
  rw [e]
  exact ⟨_,_,_,rfl,.inr rfl,hk⟩
 ·obtain ⟨v,e,hk⟩:=vY hk
  obtain ⟨n,e⟩:=vT e
  simp only [Po hl n]
  exact ⟨_,_,_,YH e,.inr rfl,hk⟩
 ·obtain ⟨v,g,e,hk⟩:=jH hk
  obtain ⟨n,e⟩:=vT e
  simp only [Po hl n]
  exact ⟨_,_,_,e,.inr rfl,hk⟩
 ·obtain ⟨v,e,hk⟩:=vY hk
  rw [strict _ (fun x=>zd P _ x h) (fun _ _ _=>rfl) e]
  exact ⟨_,_,_,YH e,.inr rfl,hk⟩
 ·obtain ⟨v,e,hk⟩:=vY hk
  obtain ⟨n,e⟩:=vT e
  rw [strict _ (fun x=>zh P _ x _ h) (fun _ _ _=>rfl) e]
  simp only [Zh hl (Wp n),e]
  exact ⟨_,_,_,rfl,.inr rfl,hk⟩
 ·obtain ⟨v,e,hk⟩:=vY hk
  rw [strict _ uk (fun _ _ _=>rfl) e]
  unfold uk at e
  split at e
  ·rename_i hc;cases e;rw [hc];exact ⟨_,_,_,rfl,.inr rfl,hk⟩
  ·rename_i hc;cases e;rw [hc];exact ⟨_,_,_,rfl,.inr rfl,hk⟩
  ·cases e
 ·obtain ⟨v,e,hk⟩:=vY hk
  obtain ⟨n,e⟩:=vT e
  simp only [Zh hl (mY n).1,Zh hl (mY n).2]
  exact ⟨_,_,_,YH e,.inr rfl,hk⟩
 ·obtain ⟨v,e,hk⟩:=vY hk
  rw [strict _ (Wz P _) (fun _ _ _=>rfl) e]
  obtain ⟨hf,e⟩:=zv e
  simp only [hf,cond_true]
  exact ⟨_,_,_,YH e,.inr rfl,hk⟩
 ·obtain ⟨v,g,e,hk⟩:=jH hk
  obtain ⟨n,e⟩:=vT e
  simp only [Zh hl (Wp n)]
  exact ⟨_,_,_,e,.inr rfl,hk⟩
 ·obtain ⟨v,e,hk⟩:=vY hk
  obtain ⟨n,e⟩:=vT e
  simp only [Zh hl (Wp n)]
  unfold RG at e
  split at e
  ·rename_i hm;cases e;rw [hm];exact ⟨_,_,_,rfl,.inr rfl,hk⟩
  ·cases e
 ·obtain ⟨v,e,hk⟩:=vY hk
  obtain ⟨n,e⟩:=vT e
  cases e
  obtain ⟨n1,n2⟩:=Hr n
  simp only [Qv hl n1,Qv hl n2]
  exact ⟨_,_,_,rfl,.inr rfl,hk⟩
 ·rename_i t l c
  obtain ⟨v,g,e,hk⟩:=jH hk
  have e1:=strict l (fun x=>ZY P t x (ev r c) h) (fun _ _ _=>rfl) e
  have e2:=strict c (fun x=>ZY P t (ev r l) x h) (fun k p q=>by unfold ZY;split <;> first | rfl | (rename_i hh _;cases hh)) e
  simp only [e1,e2]
  exact ⟨_,_,_,e,.inr rfl,hk⟩
 ·rename_i t x lo hi
  obtain ⟨v,e,hk⟩:=vY hk
  obtain ⟨n,e⟩:=vT e
  obtain ⟨hb,e⟩:=zv e
  simp only [aac] at hb
  simp only [Zh hl (Wp n),Sj hl hb.1,Sj hl hb.2]
  unfold MY at e
  split at e
  ·rename_i str hs
   rw [hs]
   simp only [Jt.flatSlice,e]
   exact ⟨_,_,_,rfl,.inr rfl,hk⟩
  ·rename_i hs
   split
   ·rename_i a b c str h1 h2 h3
    exact absurd (abE h1) (fun q=>hs _ q)
   ·rename_i h1 h2 h3
    cases h1;cases h2;cases h3
    exact ⟨_,_,_,YH e,.inr rfl,hk⟩
   ·rename_i h1 h2
    exact absurd rfl (h2 _ _ _ rfl rfl)
 ·rename_i t x f
  obtain ⟨v,e,hk⟩:=vY hk
  rw [strict x (fun x=>zb P t x f) (fun _ _ _=>rfl) e]
  exact ⟨_,_,_,YH e,.inr rfl,hk⟩
 ·rename_i t x f
  obtain ⟨v,e,hk⟩:=vY hk
  rw [strict x (fun x=>ON P t x f) (fun _ _ _=>rfl) e]
  unfold ON at e
  split at e
  ·rename_i cs hc
   rw [hc]
   split at e
   ·rename_i fields hu
    simp only [hu]
    split at e
    ·rename_i fd hfd;simp only [hfd];exact ⟨_,_,_,YH e,.inr rfl,hk⟩
    ·cases e
   ·cases e
  ·cases e
 ·rename_i t x i
  obtain ⟨v,e,hk⟩:=vY hk
  have e1:=strict x (fun x=>zw P t x (ev r i)) (fun k p q=>by unfold zw;split <;> (try rfl);split <;> first | rfl | (rename_i hh;cases hh)) e
  have e2:=strict i (fun y=>zw P t (ev r x) y) (fun k p q=>rfl) e
  simp only [e1,e2]
  exact ⟨_,_,_,YH e,.inr rfl,hk⟩
 ·rename_i t x i
  obtain ⟨v,e,hk⟩:=vY hk
  have e1:=strict x (fun x=>M9 P t x (ev r i)) (fun k p q=>rfl) e
  have e2:=strict i (fun y=>M9 P t (ev r x) y) (fun k p q=>by unfold M9;cases flat (ev r x) <;> rfl) e
  obtain ⟨hf,e⟩:=zv e
  simp only [e1,e2,hf,cond_true]
  exact ⟨_,_,_,YH e,.inr rfl,hk⟩
 ·rename_i x i
  obtain ⟨v,e,hk⟩:=vY hk
  rw [strict x (fun x=>Wf x i) (fun _ _ _=>rfl) e]
  unfold Wf at e
  split at e
  ·rename_i vs hc
   rw [hc]
   obtain ⟨n,e⟩:=vT e
   exact ⟨_,_,_,YH e,.inr rfl,hk⟩
  ·cases e
 ·obtain ⟨v,g,e,hk⟩:=jH hk
  obtain ⟨n,e⟩:=vT e
  simp only [Qv hl n]
  exact ⟨_,_,_,e,.inr rfl,hk⟩
 ·exact ⟨_,_,_,rfl,.inr rfl,hk⟩
 ·obtain ⟨v,e,hk⟩:=vY hk
  obtain ⟨n,e⟩:=vT e
  simp only [Zh hl (mY n).1,Zh hl (mY n).2]
  exact ⟨_,_,_,YH e,.inr rfl,hk⟩
 ·obtain ⟨v,e,hk⟩:=vY hk
  obtain ⟨n,e⟩:=vT e
  simp only [Zh hl (D2 n).1,Zh hl (D2 n).2.1,Zh hl (D2 n).2.2,e]
  exact ⟨_,_,_,rfl,.inr rfl,hk⟩
 ·obtain ⟨v,g,e,hk⟩:=jH hk
  obtain ⟨n,e⟩:=vT e
  simp only [Zh hl (Wp n)]
  exact ⟨_,_,_,e,.inr rfl,hk⟩
 ·obtain ⟨v,g,e,hk⟩:=jH hk
  obtain ⟨n,e⟩:=vT e
  simp only [Zh hl (Wp n)]
  exact ⟨_,_,_,e,.inr rfl,hk⟩
 ·obtain ⟨v,e,hk⟩:=vY hk
  obtain ⟨n,e⟩:=vT e
  simp only [Zh hl (Wp n)]
  exact ⟨_,_,_,YH e,.inr rfl,hk⟩
 ·exact hk.elim
end
noncomputable section
variable {P:Program}
def Ni (d:Option Nat):Nat:=match d with
 | some d=>1 <<< d
 | none=>0
def Vo:List Oper->Nat
 | []=>0
 | o :: os=>Ni o.dst ||| Vo os
def j0:Code->Nat
 | .region _ ops _=>Vo ops.toList
 | .seq a b=>j0 a ||| j0 b
 | .cond _ a b=>j0 a ||| j0 b
 | .block _ a=>j0 a
 | .scope a=>j0 a
 | .loop a=>j0 a
 | _=>0
def PO (x:Operand):Nat:=match x with
 | .tmp t=>1 <<< t
 | _=>0
def Sz:List Operand->Nat
 | []=>0
 | x :: l=>PO x ||| Sz l
def SA (d:Nat):List Oper->Nat
 | []=>0
 | o :: os=>(Nat.xor (Sz o.op.operands.toList ||| d) d) ||| SA (d ||| Ni o.dst) os
def Pd:Code->Nat
 | .region _ ops _=>Vo ops.toList
 | .seq a b=>Pd a ||| Pd b
 | .cond _ a b=>Nat.land (Pd a) (Pd b)
 | .scope a=>Pd a
 | _=>0
def t8:Code->Nat
 | .region _ ops _=>SA 0 ops.toList
 | .seq a b=>t8 a ||| Nat.xor (t8 b ||| Pd a) (Pd a)
 | .cond x a b=>PO x ||| t8 a ||| t8 b
 | .block _ a=>t8 a
 | .scope a=>t8 a
 | .loop a=>t8 a
 | .rangeFunc f _ a b=>PO f ||| t8 a ||| t8 b
 | _=>0
def bits (m n:Nat):List Nat:=(List.range n).filter fun t=>m.testBit t
theorem L9 {m n t:Nat}:t ∈ bits m n ↔ t < n/\m.testBit t=true:=by simp [bits]
structure Fr (m:Nat) (s s1:Env):Prop where
 size:s1.size=s.size
 get:∀ t,m.testBit t=false->s1.get t=s.get t
 out:∀ t,s.size<=t->s1.get t=s.get t
theorem Fr.refl (m:Nat) (s:Env):Fr m s s:=⟨rfl,fun _ _=>rfl,fun _ _=>rfl⟩
theorem Fr.trans {m:Nat} {a b c:Env} (h:Fr m a b) (k:Fr m b c):Fr m a c :=
 ⟨k.size.trans h.size,fun t ht=>(k.get t ht).trans (h.get t ht),fun t ht=>(k.out t (by rw [h.size];exact ht)).trans (h.out t ht)⟩
theorem Fr.left {m n:Nat} {a b:Env} (h:Fr m a b):Fr (m ||| n) a b:=⟨h.size,fun t ht=>h.get t (by rw [Nat.testBit_or] at ht;simp only [aca] at ht;exact ht.1),h.out⟩
theorem Fr.right {m n:Nat} {a b:Env} (h:Fr n a b):Fr (m ||| n) a b:=⟨h.size,fun t ht=>h.get t (by rw [Nat.testBit_or] at ht;simp only [aca] at ht;exact ht.2),h.out⟩
theorem Fr.put {s s1:Env} {d:Option Nat} {v:Value} (h:s.put d v=some s1):Fr (Ni d) s s1:=by
 cases d with
 | none=>simp only [Env.put,aaa] at h;subst h;exact .refl _ _
 | some d=>
   simp only [Env.put] at h
   obtain ⟨hd,h⟩:=zv h
   simp only [aaa] at h
   subst h
   have hd:d < s.size:=by simpa [aaR] using hd
   refine ⟨rfl,fun t ht => ?_,fun t ht => ?_⟩
   ·rw [Env.yb]
    simp only [Ni,Nat.testBit_shiftLeft] at ht
    rw [if_neg (by intro e;subst e;simp at ht)]
   ·rw [Env.yb,if_neg (by omega)]
def nth:List Value->Nat->Value
 | [],_=>bot
 | a :: _,0=>a
 | _ :: l,n + 1=>nth l n
def Ws (lv:Nat) (s:Env):List Nat->List Value
 | []=>[]
 | t :: ts=>cond (lv.testBit t) (s.get t :: Ws lv s ts) (Ws lv s ts)
def Qf (lv:Nat) (vs:List Value):List Nat->Nat->Env->Env
 | [],_,s=>s
 | t :: ts,i,s=>cond (lv.testBit t) (Qf lv vs ts (i + 1) (s.set t (nth vs i))) (Qf lv vs ts i (s.set t bot))
theorem ft {lv:Nat} {vs:List Value} {r1 s1:Env} (h1:Le r1 s1):∀ (ts:List Nat) (i:Nat) (r:Env),r.size=s1.size->(∀ k,nth vs (i + k)=nth (Ws lv r1 ts) k)->(∀ t,t ∈ ts\/zP (r.get t)=true\/r.get t=s1.get t)->Le (Qf lv vs ts i r) s1
 | [],i,r,hz,_,h=>⟨hz,fun t=>by rcases h t with h | h; · cases h
                                ·exact h⟩
 | t :: ts,i,r,hz,hv,h=>by
   simp only [Qf]
   cases hb:lv.testBit t with
   | true=>
     simp only [cond_true]
     have e0:nth vs i=r1.get t:=by have:=hv 0;simp only [Ws,hb,cond_true] at this;exact this
     refine ft h1 ts (i + 1) _ hz (fun k => ?_) (fun t' => ?_)
     ·have:=hv (k + 1);simp only [Ws,hb,cond_true] at this
      rw [show i + 1 + k=i + (k + 1) by omega];exact this
     ·rw [Env.yb,e0]
      by_cases e:t'=t
      ·subst e;rw [if_pos rfl];exact .inr (h1.get t')
      ·rw [if_neg e]
       rcases h t' with h2 | h2
       ·rcases abf.1 h2 with h3 | h3
        ·exact absurd h3 e
        ·exact .inl h3
       ·exact .inr h2
   | false=>
     simp only [cond_false]
     refine ft h1 ts i _ hz (fun k => ?_) (fun t' => ?_)
     ·have:=hv k;simp only [Ws,hb,cond_false] at this;exact this
     ·rw [Env.yb]
      by_cases e:t'=t
      ·rw [if_pos e];exact .inr (.inl rfl)
      ·rw [if_neg e]
       rcases h t' with h2 | h2
       ·rcases abf.1 h2 with h3 | h3
        ·exact absurd h3 e
        ·exact .inl h3
       ·exact .inr h2
theorem join_le {lv m:Nat} {r s r1 s1:Env} (h:Le r s) (h1:Le r1 s1) (f:Fr m s s1):Le (Qf lv (Ws lv r1 (bits m r.size)) (bits m r.size) 0 r) s1:=by
 refine ft h1 _ _ _ (h.size.trans f.size.symm) (fun k=>by rw [aav]) (fun t => ?_)
 by_cases hm:m.testBit t=true
 ·by_cases hz:t < r.size
  ·exact .inl (L9.2 ⟨hz,hm⟩)
  ·
   rcases h.get t with e | e
   ·exact .inr (.inl e)
   ·exact .inr (.inr (e.trans (f.out t (by rw [<- h.size];omega)).symm))
 ·simp only [acm] at hm
  rcases h.get t with e | e
  ·exact .inr (.inl e)
  ·exact .inr (.inr (e.trans (f.get t hm).symm))
def Sn (P:Program) (s:Env) (o:Oper) (h:za) (K:Value->za->Prop):Prop:=match o.op with
 | .call { callee := .value f,args,argTypes }=>zH P (ev s f) (dC s args.toList) h K
 | _=>Mi P s o h K
def GD (g:Value) (want:Bool) (A:(Value->za->Prop)->Prop) (K:Value->za->Prop) (h:za):Prop:=match g with
 | .bool b=>(b=want->A K)/\(b ≠ want->K undef h)
 | .complex _ _ _=>False
 | _=>K undef h
def M1 (P:Program) (ops:Array Oper):List Oper->Env->za->(Env->za->Prop)->Prop
 | [],s,h,K=>K s h
 | o :: os,s,h,K=>(match o.guard with
   | none=>Sn P s o h fun v h1=>(match s.put o.dst v with
     | some s1=>M1 P ops os s1 h1 K
     | none=>False)
   | some (j,want)=>(match (ops[j]?).bind (·.dst) with
     | none=>False
     | some d=>GD (s.get d) want (Sn P s o h) (fun v h1=>(match s.put o.dst v with
       | some s1=>M1 P ops os s1 h1 K
       | none=>False)) h))
theorem VJ.af {h h':za} (w:VJ h) (a:AF h h'):VJ h' :=
 ⟨fun b o hb=>by
  rcases a.alive b o hb with e | e
  ·cases hh:h.get b with
   | none=>exact absurd hh e
   | some o'=>exact aai (w.1 b o' hh) a.next
  ·exact e.2,by rw [a.ro];exact aaH w.2 a.next⟩
theorem Lj {ops:Array Oper} {r s:Env} {h:za} {o:Oper} {f:Operand} {args:Array Operand} {ts:Array TypeId} {K:Value->za->Prop}
  (hw:yh ops s o=true) (hl:Le r s) (wf:VJ h) (yF:o.op = .call { callee := .value f,args:=args,argTypes:=ts }) (hk:zH P (ev r f) (dC r args.toList) h K) :
  ∃ v h1,K v h1/\AF h h1 /\ ∀ (i:Nat) (rest:List Nat) (s1:Env) (Q:Env->za->Prop),ops[i]? = some o->s.put o.dst v=some s1->TO P ops rest s1 h1 Q->TO P ops (i :: rest) s h Q:=by
 unfold zH at hk
 split at hk
 ·rename_i g a c hf
  have ef:qP s f=some (.func (.func g) a c):=by rw [Zh hl (x:=f) (by rw [hf];rfl),hf]
  obtain ⟨hn0,hn,hk⟩:=hk
  have ea:=Qv hl hn0
  rcases hk with ⟨hc,hd⟩ | hk
  ·obtain ⟨v,h1,hK,af,hT⟩:=hd wf
   exact ⟨v,h1,hK,af,fun i rest s1 Q ho hp ht=>Ep ho hw yF ef ea hc hT (by rintro v2 h2 ⟨rfl,rfl⟩;exact ⟨s1,hp,ht⟩)⟩
  ·obtain ⟨v,g',e,hk⟩:=jH hk
   exact ⟨v,g',hk,(Yt e).af,fun i rest s1 Q ho hp ht=>N3 ho hw (by rw [yF];rfl) (fun ρ w a hr hs=>sS yF ef ea e hr hs) hp ht⟩
 ·rename_i L a c hf
  obtain ⟨ha,hc,hn,hk⟩:=hk
  obtain ⟨v,h1,hK,af,hT⟩:=hk wf
  subst ha hc
  have ef:qP s f=some (.func (.yield L) #[] #[]):=by rw [Zh hl (x:=f) (by rw [hf];rfl),hf]
  exact ⟨v,h1,hK,af,fun i rest s1 Q ho hp ht=>Ae ho hw yF ef (Qv hl hn) hT (by rintro v2 h2 ⟨rfl,rfl⟩;exact ⟨s1,hp,ht⟩)⟩
 ·exact hk.elim
theorem PC {ops:Array Oper} {r s:Env} {h:za} {o:Oper} {K:Value->za->Prop} (hw:yh ops s o=true) (hl:Le r s) (wf:VJ h) (hk:Sn P r o h K) :
  ∃ v u h1,K v h1/\(zP v=true\/v=u)/\AF h h1 /\ ∀ (i:Nat) (rest:List Nat) (s1:Env) (Q:Env->za->Prop),ops[i]? = some o->s.put o.dst u=some s1->TO P ops rest s1 h1 Q->TO P ops (i :: rest) s h Q:=by
 unfold Sn at hk
 split at hk
 ·rename_i f args ts yF
  obtain ⟨v,h1,hK,af,go⟩:=Lj (ops:=ops) hw hl wf yF hk
  exact ⟨v,v,h1,hK,.inr rfl,af,go⟩
 ·obtain ⟨v,u,h',e,hv,hk⟩:=kC hl hk
  exact ⟨v,u,h',hk,hv,(Zz e).1,fun i rest s1 Q ho hp ht=>N4 ho hw e hp ht⟩
theorem sq {ops:Array Oper}:∀ (l:List Oper) (i:Nat) {r s:Env} {h:za} {K:Env->za->Prop},ops.toList.drop i=l->Le r s->VJ h->M1 P ops l r h K ->
  ∃ r' s' h',Le r' s'/\K r' h'/\Fr (Vo l) s s'/\AF h h'/\TO P ops (List.range' i l.length) s h (fun s1 h1=>s1=s'/\h1=h')
 | [],i,r,s,h,K,_,hl,wf,hk=>⟨r,s,h,hl,hk,.refl _ _,.refl _,HY ⟨rfl,rfl⟩⟩
 | o :: os,i,r,s,h,K,hd,hl,wf,hk=>by
   have ho:ops[i]? = some o:=by
    have:=congrArg (fun l=>l[0]?) hd
    simp only [aaN,aaf] at this
    simpa using this
   have hd':ops.toList.drop (i + 1)=os:=by rw [<- acx,hd];rfl
   rw [aaz,List.range'_succ]
   have next:∀ v u h1,AF h h1->(match r.put o.dst v with | some s1=>M1 P ops os s1 h1 K | none=>False)->(zP v=true\/v=u)->∃ s1 r' s' h',s.put o.dst u=some s1/\Le r' s'/\K r' h'/\Fr (Vo (o :: os)) s s'/\AF h h' /\
     TO P ops (List.range' (i + 1) os.length) s1 h1 (fun s1 h1=>s1=s'/\h1=h'):=by
    intro v u h1 af hk hv
    split at hk
    ·rename_i r1 hp
     obtain ⟨s1,hp1,hl1⟩:=hl.put hp hv
     obtain ⟨r',s',h',l',k',f',a',t'⟩:=sq os (i + 1) hd' hl1 (wf.af af) hk
     exact ⟨s1,r',s',h',hp1,l',k',(Fr.put hp1).left.trans f'.right,af.trans a',t'⟩
    ·exact hk.elim
   have run:yh ops s o=true->Sn P r o h (fun v h1=>match r.put o.dst v with | some s1=>M1 P ops os s1 h1 K | none=>False) ->
     ∃ r' s' h',Le r' s'/\K r' h'/\Fr (Vo (o :: os)) s s'/\AF h h'/\TO P ops (i :: List.range' (i + 1) os.length) s h (fun s1 h1=>s1=s'/\h1=h'):=by
    intro hw hk
    obtain ⟨v,u,h1,hK,hv,af,go⟩:=PC (ops:=ops) hw hl wf hk
    obtain ⟨s1,r',s',h',hp,l',k',f',a',t'⟩:=next v u h1 af hK hv
    exact ⟨r',s',h',l',k',f',a',go i _ s1 _ ho hp t'⟩
   have skip:yh ops s o=false->(match r.put o.dst undef with | some s1=>M1 P ops os s1 h K | none=>False) ->
     ∃ r' s' h',Le r' s'/\K r' h'/\Fr (Vo (o :: os)) s s'/\AF h h'/\TO P ops (i :: List.range' (i + 1) os.length) s h (fun s1 h1=>s1=s'/\h1=h'):=by
    intro hw hk
    obtain ⟨s1,r',s',h',hp,l',k',f',a',t'⟩:=next undef undef h (.refl _) hk (.inr rfl)
    exact ⟨r',s',h',l',k',f',a',Er ho hw hp t'⟩
   simp only [M1] at hk
   split at hk
   ·rename_i hg
    exact run (by simp only [yh,hg]) hk
   ·rename_i j want hg
    split at hk
    ·exact hk.elim
    ·rename_i d hdst
     unfold GD at hk
     split at hk
     ·rename_i b hb
      have hs:s.get d = .bool b:=by
       rcases hl.get d with e | e
       ·rw [hb] at e;cases e
       ·rw [<- e,hb]
      have haw:yh ops s o=(b == want):=by simp only [yh,hg,hdst,hs]
      by_cases hbw:b=want
      ·exact run (by rw [haw,hbw];simp) (hk.1 hbw)
      ·exact skip (by rw [haw];simpa using hbw) (hk.2 hbw)
     ·exact hk.elim
     ·rename_i n1 n2
      have hs:s.get d=r.get d:=by
       rcases hl.get d with e | e
       ·obtain ⟨k,p,q,e2⟩:=Y9 e;exact absurd e2 (n2 k p q)
       ·exact e.symm
      have haw:yh ops s o=false:=by
       simp only [yh,hg,hdst,hs]
      exact skip haw hk
structure Ks where
 nU:Env->za->Prop
 ret:Env->za->Prop
 ext:Nat->Env->za->Prop
def Ks.on (K:Ks):Ex->Env->za->Prop
 | .normal=>K.nU
 | .ret=>K.ret
 | .exit id=>K.ext id
def Ks.with (K:Ks) (n:Env->za->Prop):Ks:=⟨n,K.ret,K.ext⟩
def CD (g:Value) (A B:(List Value->za->Prop)->Prop) (J:List Value->za->Prop):Prop:=match g with
 | .bool true=>A J
 | .bool false=>B J
 | _=>False
def BK (A:(List Value->za->Prop)->Prop) (J:List Value->za->Prop):Prop:=A J
def LP (step:List Value->za->(List Value->za->Prop)->Prop) (vs:List Value) (h:za):Prop :=
 ∃ (I:Nat->List Value->za->Prop) (n:Nat),I n vs h /\ ∀ n vs h,I n vs h->step vs h (fun vs' h' => ∃ m,m < n/\I m vs' h')
def Pt:Unit:=(fun (_:Prop)=>()) (∀ (P:Program) (ops:Array Oper) (l:List Oper) (s:Env) (h:za) (K:Env->za->Prop) (A B:(List Value->za->Prop)->Prop) (J:List Value->za->Prop) (g:Value) (st:List Value->za->(List Value->za->Prop)->Prop) (vs:List Value),M1 P ops l s h K/\CD g A B J/\BK A J/\LP st vs h)
def NP (b:Bool) (x y:Prop):Prop:=Function.const Unit (cond b x y) Pt
abbrev N7:=Nat->Code->Env->za->Ks->Prop
def Rk (P:Program) (D:Array Oper->Env->za->(Env->za->Prop)->Prop) (rec:N7):N7:=fun lv c s h K=>match c with
 | .skip=>K.nU s h
 | .label _=>K.nU s h
 | .exit id=>K.ext id s h
 | .ret=>K.ret s h
 | .seq a b=>rec (lv ||| t8 b) a s h (K.with fun s1 h1=>rec lv b s1 h1 K)
 | .cond x a b=>CD (ev s x) (fun j=>rec lv a s h (K.with fun s1 h1=>j (Ws lv s1 (bits (j0 a ||| j0 b) s.size)) h1)) (fun j=>rec lv b s h (K.with fun s1 h1=>j (Ws lv s1 (bits (j0 a ||| j0 b) s.size)) h1))
   (fun vs h1=>K.nU (Qf lv vs (bits (j0 a ||| j0 b) s.size) 0 s) h1)
 | .block id a=>BK (fun j=>rec lv a s h ⟨fun s1 h1=>j (Ws lv s1 (bits (j0 a) s.size)) h1,K.ret,fun i s1 h1=>cond (Nat.beq i id) (j (Ws lv s1 (bits (j0 a) s.size)) h1) (K.ext i s1 h1)⟩)
   (fun vs h1=>K.nU (Qf lv vs (bits (j0 a) s.size) 0 s) h1)
 | .scope a=>rec lv a s h K
 | .loop a=>LP (fun vs h1 j=>rec (lv ||| t8 a) a (Qf (lv ||| t8 a) vs (bits (j0 a) s.size) 0 s) h1 (K.with fun s1 h2=>j (Ws (lv ||| t8 a) s1 (bits (j0 a) s.size)) h2))
   (Ws (lv ||| t8 a) s (bits (j0 a) s.size)) h
 | .region _ ops draw=>NP draw (D ops s h K.nU) (M1 P ops ops.toList s h K.nU)
 | _=>False
def wp (P:Program) (D:Array Oper->Env->za->(Env->za->Prop)->Prop) (n:Nat):N7:=Nat.rec (fun _ _ _ _ _=>False) (fun _ rec=>Rk P D rec) n
def Vs (P:Program) (D:Array Oper->Env->za->(Env->za->Prop)->Prop):Prop :=
 ∀ ops r s h K rd id,Le r s->VJ h->D ops r h K->∃ r' s' h',Le r' s'/\K r' h'/\Fr (Vo ops.toList) s s'/\AF h h'/\T P rd (.region id ops true) s h (fun e s1 h1=>e = .normal/\s1=s'/\h1=h')
def Good (P:Program) (rd:Option Nat) (rec:N7):Prop := ∀ lv c r s h K,Le r s->VJ h->rec lv c r h K->∃ e r' s' h',Le r' s'/\K.on e r' h'/\Fr (j0 c) s s'/\AF h h'/\T P rd c s h (fun e1 s1 h1=>e1=e/\s1=s'/\h1=h')
theorem CJ {D:Array Oper->Env->za->(Env->za->Prop)->Prop} (hD:Vs P D) {rd:Option Nat} {rec:N7} (G:Good P rd rec):Good P rd (Rk P D rec):=by
 intro lv c r s h K hl wf hk
 cases c with
 | skip=>exact ⟨.normal,r,s,h,hl,hk,.refl _ _,.refl _,H0 ⟨rfl,rfl,rfl⟩⟩
 | label l=>exact ⟨.normal,r,s,h,hl,hk,.refl _ _,.refl _,Et ⟨rfl,rfl,rfl⟩⟩
 | exit id=>exact ⟨.exit id,r,s,h,hl,hk,.refl _ _,.refl _,HZ ⟨rfl,rfl,rfl⟩⟩
 | ret=>exact ⟨.ret,r,s,h,hl,hk,.refl _ _,.refl _,N5 ⟨rfl,rfl,rfl⟩⟩
 | seq a b=>
   obtain ⟨e,r1,s1,h1,l1,k1,f1,a1,t1⟩:=G _ _ _ _ _ _ hl wf hk
   cases e with
   | normal=>
     obtain ⟨e2,r2,s2,h2,l2,k2,f2,a2,t2⟩:=G _ _ _ _ _ _ l1 (wf.af a1) k1
     refine ⟨e2,r2,s2,h2,l2,k2,f1.left.trans f2.right,a1.trans a2,Ev (t1.mono ?_)⟩
     rintro e s3 h3 ⟨rfl,rfl,rfl⟩
     exact t2
   | ret=>
     refine ⟨.ret,r1,s1,h1,l1,k1,f1.left,a1,Ev (t1.mono ?_)⟩
     rintro e s3 h3 ⟨rfl,rfl,rfl⟩
     exact ⟨rfl,rfl,rfl⟩
   | exit id=>
     refine ⟨.exit id,r1,s1,h1,l1,k1,f1.left,a1,Ev (t1.mono ?_)⟩
     rintro e s3 h3 ⟨rfl,rfl,rfl⟩
     exact ⟨rfl,rfl,rfl⟩
 | cond x a b=>
   have fin:∀ (c:Code),(∀ s s1,Fr (j0 c) s s1->Fr (j0 a ||| j0 b) s s1)->rec lv c r h (K.with fun s1 h1=>(fun vs h1=>K.nU (Qf lv vs (bits (j0 a ||| j0 b) r.size) 0 r) h1) (Ws lv s1 (bits (j0 a ||| j0 b) r.size)) h1) ->
     ∃ e r' s' h',Le r' s'/\K.on e r' h'/\Fr (j0 a ||| j0 b) s s'/\AF h h'/\T P rd c s h (fun e1 s1 h1=>e1=e/\s1=s'/\h1=h'):=by
    intro c hf hk
    obtain ⟨e,r1,s1,h1,l1,k1,f1,a1,t1⟩:=G _ _ _ _ _ _ hl wf hk
    have f2:=hf _ _ f1
    cases e with
    | normal=>exact ⟨.normal,_,s1,h1,join_le hl l1 f2,k1,f2,a1,t1⟩
    | ret=>exact ⟨.ret,r1,s1,h1,l1,k1,f2,a1,t1⟩
    | exit id=>exact ⟨.exit id,r1,s1,h1,l1,k1,f2,a1,t1⟩
   unfold Rk at hk
   dsimp only at hk
   unfold CD at hk
   split at hk
   ·rename_i hx
    obtain ⟨e,r',s',h',q1,q2,q3,q4,t⟩:=fin a (fun _ _ f=>f.left) hk
    exact ⟨e,r',s',h',q1,q2,q3,q4,su (t:=true) (by rw [Zh hl (x:=x) (by rw [hx];rfl),hx]) t⟩
   ·rename_i hx
    obtain ⟨e,r',s',h',q1,q2,q3,q4,t⟩:=fin b (fun _ _ f=>f.right) hk
    exact ⟨e,r',s',h',q1,q2,q3,q4,su (t:=false) (by rw [Zh hl (x:=x) (by rw [hx];rfl),hx]) t⟩
   ·exact hk.elim
 | block id a=>
   have hk:rec lv a r h _:=hk
   obtain ⟨e,r1,s1,h1,l1,k1,f1,a1,t1⟩:=G _ _ _ _ _ _ hl wf hk
   cases e with
   | normal=>
     refine ⟨.normal,_,s1,h1,join_le hl l1 f1,k1,f1,a1,aX (t1.mono ?_)⟩
     rintro e s3 h3 ⟨rfl,rfl,rfl⟩
     rw [if_neg (by simp)];exact ⟨rfl,rfl,rfl⟩
   | ret=>
     refine ⟨.ret,r1,s1,h1,l1,k1,f1,a1,aX (t1.mono ?_)⟩
     rintro e s3 h3 ⟨rfl,rfl,rfl⟩
     rw [if_neg (by simp)];exact ⟨rfl,rfl,rfl⟩
   | exit i=>
     simp only [Ks.on] at k1
     by_cases hi:i=id
     ·subst hi
      rw [show Nat.beq i i=true from ab5 i] at k1
      refine ⟨.normal,_,s1,h1,join_le hl l1 f1,k1,f1,a1,aX (t1.mono ?_)⟩
      rintro e s3 h3 ⟨rfl,rfl,rfl⟩
      rw [if_pos rfl];exact ⟨rfl,rfl,rfl⟩
     ·rw [Tr.beq_false hi] at k1
      refine ⟨.exit i,r1,s1,h1,l1,k1,f1,a1,aX (t1.mono ?_)⟩
      rintro e s3 h3 ⟨rfl,rfl,rfl⟩
      rw [if_neg (by simpa using hi)];exact ⟨rfl,rfl,rfl⟩
 | scope a=>
   obtain ⟨e,r1,s1,h1,l1,k1,f1,a1,t1⟩:=G _ _ _ _ _ _ hl wf hk
   exact ⟨e,r1,s1,h1,l1,k1,f1,a1,Eu t1⟩
 | loop a=>
   unfold Rk at hk
   dsimp only at hk
   obtain ⟨I,n,h0,hI⟩:=hk
   have key:∀ n r1 s1 h1,Le r1 s1->VJ h1->Fr (j0 a) s s1->I n (Ws (lv ||| t8 a) r1 (bits (j0 a) r.size)) h1 ->
     ∃ e r' s' h',Le r' s'/\K.on e r' h'/\Fr (j0 a) s s'/\AF h1 h'/\T P rd (.loop a) s1 h1 (fun e1 s2 h2=>e1=e/\s2=s'/\h2=h'):=by
    intro n
    induction n using Nat.strongRecOn with
    | _ n ih=>
      intro r1 s1 h1 l1 wf1 f1 hn
      have hstep:=hI n _ h1 hn
      obtain ⟨e,r2,s2,h2,l2,k2,f2,a2,t2⟩:=G _ _ _ _ _ _ (join_le hl l1 f1) wf1 hstep
      cases e with
      | normal=>
        obtain ⟨m,hm,k2⟩:=k2
        obtain ⟨e3,r3,s3,h3,l3,k3,f3,a3,t3⟩:=ih m hm r2 s2 h2 l2 (wf1.af a2) (f1.trans f2) k2
        refine ⟨e3,r3,s3,h3,l3,k3,f3,a2.trans a3,WB (t2.mono ?_)⟩
        rintro e s4 h4 ⟨rfl,rfl,rfl⟩
        exact t3
      | ret=>
        refine ⟨.ret,r2,s2,h2,l2,k2,f1.trans f2,a2,WB (t2.mono ?_)⟩
        rintro e s4 h4 ⟨rfl,rfl,rfl⟩
        exact ⟨rfl,rfl,rfl⟩
      | exit i=>
        refine ⟨.exit i,r2,s2,h2,l2,k2,f1.trans f2,a2,WB (t2.mono ?_)⟩
        rintro e s4 h4 ⟨rfl,rfl,rfl⟩
        exact ⟨rfl,rfl,rfl⟩
   exact key n r s h hl wf (.refl _ _) h0
 | region id ops draw=>
   cases draw with
   | true=>
     obtain ⟨r',s',h',q1,q2,q3,q4,t⟩:=hD ops r s h K.nU rd id hl wf hk
     exact ⟨.normal,r',s',h',q1,q2,q3,q4,t⟩
   | false=>
     have hk:M1 P ops ops.toList r h K.nU:=hk
     obtain ⟨r',s',h',q1,q2,q3,q4,t⟩:=sq ops.toList 0 (abh) hl wf hk
     refine ⟨.normal,r',s',h',q1,q2,q3,q4,Af ?_⟩
     rw [List.range_eq_range']
     rw [abt] at t
     exact (fun ρ w tm ds hr hs b k cs=>by
      obtain ⟨s1,h1,ρ1,w1,tm1,⟨e1,e2⟩,rest⟩:=t ρ w tm ds hr hs b k cs
      exact ⟨s1,h1,ρ1,w1,tm1,⟨rfl,e1,e2⟩,rest⟩)
 | _=>exact hk.elim
theorem tZ {D:Array Oper->Env->za->(Env->za->Prop)->Prop} (hD:Vs P D) {rd:Option Nat}:∀ n,Good P rd (wp P D n)
 | 0=>fun _ _ _ _ _ _ _ _ hk=>hk.elim
 | n + 1=>CJ hD (tZ hD n)
def RK (nU ret:za->Prop) (ext:Nat->za->Prop) (e:Ex) (h:za):Prop:=match e with
 | .normal=>nU h
 | .ret=>ret h
 | .exit i=>ext i h
def RF (P:Program) (f:Value) (params:Array Tmp) (as bd:Code) (s:Env) (h:za) (nU ret:za->Prop) (ext:Nat->za->Prop):Prop:=match f with
 | .func (.func g) a c=>x9 P g=true /\ ∀ s1,Le s s1->DC P g (a.toList ++ [.func (.yield h.next) #[] #[]] ++ c.toList) (h.push (.loop { state := .ready,pending:=none,s:=s1,params:=params,assign:=as,body:=bd }))
   (fun _ h1 => ∃ A,h1.get h.next=some (.loop A)/\(A.state == .busy)=false/\h1.ro<=h.next /\ ∃ e,YE e=A.pending/\RK nU ret ext e (h1.set h.next none))
 | _=>False
def TH (P:Program) (D:Array Oper->Env->za->(Env->za->Prop)->Prop) (rec:N7):N7:=fun lv c s h K=>match c with
 | .rangeFunc f params as bd=>RF P (ev s f) params as bd s h (fun h1=>K.nU s h1) (fun h1=>K.ret s h1) (fun i h1=>K.ext i s h1)
 | c=>Rk P D rec lv c s h K
def TG (P:Program) (D:Array Oper->Env->za->(Env->za->Prop)->Prop) (n:Nat):N7:=Nat.rec (fun _ _ _ _ _=>False) (fun _ rec=>TH P D rec) n
theorem CH {h:za} (w:VJ h) (o:xE):VJ (h.push o):=⟨fun b x hb=>by
 rw [za.wm] at hb
 show b < h.next + 1
 split at hb
 ·rename_i e;omega
 ·have:=w.1 b x hb;omega,abd w.2⟩
theorem HV {f:Operand} {params:Array Tmp} {as bd:Code} {r s:Env} {h:za} {nU ret:za->Prop} {ext:Nat->za->Prop} (hl:Le r s) (wf:VJ h) (hk:RF P (ev r f) params as bd r h nU ret ext) :
  ∃ e h',RK nU ret ext e h'/\AF h h'/\T P none (.rangeFunc f params as bd) s h (fun e1 s1 h1=>e1=e/\s1=s/\h1=h'):=by
 unfold RF at hk
 split at hk
 case h_2=>exact hk.elim
 rename_i g a c hf
 obtain ⟨hc,hd⟩:=hk
 obtain ⟨v,h1,⟨A,gA,bA,ro,e,je,kk⟩,af,t⟩:=hd s hl (CH wf _)
 have ef:qP s f=some (.func (.func g) a c):=by rw [Zh hl (x:=f) (by rw [hf];rfl),hf]
 refine ⟨e,h1.set h.next none,kk,⟨?_,af.ro,fun b o hb => ?_⟩,fG ef hc (fun L q=>by cases q) (t.mono ?_)⟩
 ·have:=af.next
  show h.next<=h1.next
  have e1:(h.push (.loop { state := .ready,pending:=none,s:=s,params:=params,assign:=as,body:=bd })).next=h.next + 1:=rfl
  omega
 ·rw [za.yb] at hb
  split at hb
  ·cases hb
  ·rename_i hne
   rcases af.alive b o hb with q | q
   ·rw [za.wm,if_neg hne] at q
    exact .inl q
   ·have e1:(h.push (.loop { state := .ready,pending:=none,s:=s,params:=params,assign:=as,body:=bd })).next=h.next + 1:=rfl
    refine .inr ⟨by omega,?_⟩
    exact q.2
 ·rintro v1 h2 ⟨_,rfl⟩
  exact ⟨A,gA,bA,ro,e,je,rfl,rfl,rfl⟩
theorem CI {D:Array Oper->Env->za->(Env->za->Prop)->Prop} (hD:Vs P D):∀ n,Good P none (TG P D n)
 | 0=>fun _ _ _ _ _ _ _ _ hk=>hk.elim
 | n + 1=>fun lv c r s h K hl wf hk=>by
   have key:Rk P D (TG P D n) lv c r h K->_:=fun q=>CJ hD (CI hD n) lv c r s h K hl wf q
   cases c with
   | rangeFunc f params as bd=>
     obtain ⟨e,h',kk,af,t⟩:=HV hl wf hk
     exact ⟨e,r,s,h',hl,by cases e <;> exact kk,.refl _ _,af,t⟩
   | _=>exact key hk
def rv (vs:List Value) (h:za) (R:Value->za->Prop):Prop:=yC vs=true/\R (jF vs) h
def Mt (P:Program):List ResultVar->Env->za->(List Value->Prop)->Prop
 | [],s,h,K=>K []
 | .tmp t :: rs,s,h,K=>Mt P rs s h fun vs=>K (s.get t :: vs)
 | .cell a t :: rs,s,h,K=>opt (zd P t (s.get a) h) fun v=>Mt P rs s h fun vs=>K (v :: vs)
def PN:List ResultVar->Nat
 | []=>0
 | .tmp t :: rs=>(1 <<< t) ||| PN rs
 | .cell a _ :: rs=>(1 <<< a) ||| PN rs
def Ro (P:Program) (D:Array Oper->Env->za->(Env->za->Prop)->Prop) (n:Nat) (f:FuncId) (args:List Value) (h:za) (R:Value->za->Prop):Prop :=
 match P.funcs[f]? with
 | some fn=>(match fn.body with
   | some c=>TG P D n (PN fn.results.toList) c (Env.enter args fn.ntmps) h ⟨fun s h=>Mt P fn.results.toList s h fun vs=>rv vs h R,fun s h=>Mt P fn.results.toList s h fun vs=>rv vs h R,fun _ _ _=>False⟩
   | none=>False)
 | none=>False
theorem Qg {r s:Env} {h:za} (hl:Le r s):∀ {rs:List ResultVar} {K:List Value->Prop},Mt P rs r h K->(∀ vs,K vs->yC vs=true)->∃ vs,uG P s h rs=some vs/\K vs
 | [],K,hk,_=>⟨[],rfl,hk⟩
 | .tmp t :: rs,K,hk,hn=>by
   obtain ⟨vs,e,q⟩:=Qg hl (rs:=rs) hk (fun vs q=>by
    have:=hn _ q
    simp only [yC] at this
    cases hb:zP (r.get t) with
    | true=>rw [hb] at this;cases this
    | false=>rw [hb] at this;exact this)
   have hb:zP (r.get t)=false:=by
    have:=hn _ q
    simp only [yC] at this
    cases hb:zP (r.get t) with
    | true=>rw [hb] at this;cases this
    | false=>rfl
   have et:r.get t=s.get t:=by
    rcases hl.get t with e | e
    ·rw [e] at hb;cases hb
    ·exact e
   exact ⟨_,by simp only [uG,e,<- et],q⟩
 | .cell a t :: rs,K,hk,hn=>by
   obtain ⟨v,ev,hk⟩:=vY hk
   have et:r.get a=s.get a:=by
    rcases hl.get a with e | e
    ·obtain ⟨k,p,q,e2⟩:=Y9 e;rw [e2] at ev;cases ev
    ·exact e
   obtain ⟨vs,e,q⟩:=Qg hl (rs:=rs) hk (fun vs q=>by
    have:=hn _ q
    simp only [yC] at this
    cases hb:zP v with
    | true=>rw [hb] at this;cases this
    | false=>rw [hb] at this;exact this)
   exact ⟨_,by simp only [uG,<- et,ev,e],q⟩
theorem KE {D:Array Oper->Env->za->(Env->za->Prop)->Prop} (hD:Vs P D) {n:Nat} {f:FuncId} {args:List Value} {h:za} {R:Value->za->Prop} (hk:Ro P D n f args h R):DC P f args h R:=by
 intro wf
 unfold Ro at hk
 split at hk
 case h_2=>exact hk.elim
 rename_i fn hf
 split at hk
 case h_2=>exact hk.elim
 rename_i c hb
 obtain ⟨e,r1,s1,h1,l1,k1,_,a1,t1⟩:=CI hD n _ _ _ _ _ _ (.refl _) wf hk
 have fin:∀ {e:Ex},(e = .normal\/e = .ret)->(∃ vs,uG P s1 h1 fn.results.toList=some vs/\yC vs=true/\R (jF vs) h1)->T P none c (Env.enter args fn.ntmps) h (fun e1 s2 h2=>e1=e/\s2=s1/\h2=h1) ->
   ∃ v h1,R v h1/\AF h h1/\TC P f args h (fun v' h'=>v'=v/\h'=h1):=by
  rintro e he ⟨vs,e1,_,q⟩ t
  refine ⟨_,h1,q,a1,Eo hf hb (t.mono ?_)⟩
  rintro e s2 h2 ⟨rfl,rfl,rfl⟩
  exact ⟨he,vs,e1,rfl,rfl⟩
 cases e with
 | normal=>
   obtain ⟨vs,e,q⟩:=Qg l1 k1 (fun vs q=>q.1)
   exact fin (.inl rfl) ⟨vs,e,q⟩ t1
 | ret=>
   obtain ⟨vs,e,q⟩:=Qg l1 k1 (fun vs q=>q.1)
   exact fin (.inr rfl) ⟨vs,e,q⟩ t1
 | exit id=>exact k1.elim
end
noncomputable section
variable {P:Program}
def cV:Nat->Nat
 | 2=>1
 | 3=>2
 | 4=>2
 | _=>3
def xB (q:FuncId->Nat) (o:Oper):Nat:=match o.op with
 | .call { callee := .value (.func g),.. }=>cV (q g)
 | .call { callee := .value _,.. }=>3
 | .call { callee := .builtin b,.. }=>cond (Xo b) 1 3
 | .move _ | .assign _ | .pick _ _ _ | .build _ _ | .nilCheck _ | .binOp _ _ _ _ _ | .unOp _ _ _ | .makeInterface _ _ | .makeFunc _ _ _ | .fieldAddr _ _ _ | .field _ _ _ | .indexAddr _ _ _ | .index _ _ _ | .extract _ _=>0
 | .load _ _ | .lookup _ _ _ _ | .slice _ _ _ _ _ | .entry _=>1
 | .box _ _ | .alloc _ | .buildSlice _ _ _ | .makeSlice _ _ _ | .makeMap _ _ | .convert _ _ _ | .range _ _=>2
 | _=>3
def D7 (x y:Nat):Bool:=Nat.beq x 0 || Nat.beq y 0 || (Nat.beq x 1 && Nat.ble y 2) || (Nat.beq x 2 && Nat.beq y 1)
def tF (q:FuncId->Nat):List Oper->Nat->List Nat->List (Nat × Nat)->Bool
 | [],_,_,_=>true
 | o :: os,i,ms,prev=>(prev.all fun x=>(yH ms o).testBit x.1 || D7 x.2 (xB q o)) && tF q os (i + 1) (ms ++ [yH ms o]) ((i,xB q o) :: prev)
def calm (q:FuncId->Nat) (ops:Array Oper):Bool:=ZU ops ops.toList 0 [] [] && tF q ops.toList 0 [] []
def trim (h:za) (n:Nat):za:=h.VB (List.range' n (h.next - n))
theorem LQ (h:za) (n b:Nat):(trim h n).get b=if n<=b/\b < h.next then none else h.get b:=by
 unfold trim;rw [jY];simp only [kK]
def firstFree (m:Nat):List (Nat × Nat)->Option Nat
 | []=>none
 | (p,n) :: l=>cond (m.testBit p) (firstFree m l) (some n)
def view (m:Nat) (al:List (Nat × Nat)) (h:za):za:=match firstFree m al with
 | none=>h
 | some n=>trim h n
def qN (P:Program) (g:FuncId) (args:List Value) (h:za) (K:Value->Prop):Prop:=x9 P g=true/\yC args=true /\ ∃ v,fy v=true/\TC P g args h.lock (fun v1 _=>v1=v)/\K v
def cG (P:Program) (g:FuncId) (args:List Value) (h:za) (K:Value->za->Prop):Prop :=
 x9 P g=true/\yC args=true /\ ∃ v h2,TC P g args h.lock (fun v1 h1=>v1=v/\h1=h2)/\AF h.lock h2/\K v (wY h h2)
def Y8 (P:Program) (g:FuncId) (args:List Value) (h:za) (K:Value->za->Prop):Prop :=
 x9 P g=true/\yC args=true/\DC P g args h K
def Ok (P:Program) (g:FuncId) (args:List Value) (h:za) (K:Value->za->Prop):Prop:=yC args=true/\zV (sR P g args h) K
def eQ (P:Program) (f:Value) (args:List Value) (h:za) (K:Value->za->Prop):Prop:=match f with
 | .func (.func g) a c=>yC args=true/\Y8 P g (a.toList ++ args ++ c.toList) h K
 | _=>False
def Rf (P:Program) (q:FuncId->Nat) (s:Env) (o:Oper) (hv h:za) (K:Value->za->Prop):Prop:=match o.op with
 | .call { callee := .value (.func g),args,argTypes }=>(match q g with
   | 2=>qN P g (dC s args.toList) hv fun v=>K v h
   | 3=>cG P g (dC s args.toList) h K
   | 4=>Ok P g (dC s args.toList) h K
   | _=>Y8 P g (dC s args.toList) h K)
 | .call { callee := .value f,args,argTypes }=>eQ P (ev s f) (dC s args.toList) h K
 | _=>cond (Nat.beq (xB q o) 1) (Mi P s o hv fun v _=>K v h) (Mi P s o h K)
def M0 (P:Program) (q:FuncId->Nat) (ops:Array Oper):List Oper->Nat->List Nat->List (Nat × Nat)->Env->za->(Env->za->Prop)->Prop
 | [],_,_,_,s,h,K=>K s h
 | o :: os,i,ms,al,s,h,K=>(match o.guard with
   | none=>Rf P q s o (view (yH ms o) al h) h fun v h1=>(match s.put o.dst v with
     | some s1=>M0 P q ops os (i + 1) (ms ++ [yH ms o]) (cond (Nat.beq (xB q o) 2) (al ++ [(i,h.next)]) al) s1 h1 K
     | none=>False)
   | some (j,want)=>(match (ops[j]?).bind (·.dst) with
     | none=>False
     | some d=>GD (s.get d) want (Rf P q s o (view (yH ms o) al h) h) (fun v h1=>(match s.put o.dst v with
       | some s1=>M0 P q ops os (i + 1) (ms ++ [yH ms o]) (cond (Nat.beq (xB q o) 2) (al ++ [(i,h.next)]) al) s1 h1 K
       | none=>False)) h))
def cK (P:Program) (q:FuncId->Nat) (ops:Array Oper) (s:Env) (h:za) (K:Env->za->Prop):Prop:=cond (calm q ops) (M0 P q ops ops.toList 0 [] [] s h K) False
def Vh:Op->Bool
 | .call { callee := .value _,.. }=>true
 | _=>false
theorem m7 {q:FuncId->Nat} {s:Env} {o:Oper} {h h':za} {u:Value} (hk:xB q o=0) (hc:Vh o.op=false) (he:Jt P s o h=some (u,h')):h'=h /\ ∀ g,Jt P s o g=some (u,g):=by
 have key:∀ {x:Option Value},one h x=some (u,h')->h'=h /\ ∀ g,one g x=some (u,g):=fun e=>by
  obtain ⟨e1,e2⟩:=wq e;exact ⟨e2,fun g=>YH e1⟩
 unfold xB at hk
 unfold Jt at he ⊢
 split at he <;> rename_i yF <;> simp only [yF] at hk ⊢ <;> first
  | exact key he
  | (cases he;done)
  | (cases hk;done)
  | skip
 ·split at he
  ·exact key he
  ·exact key he
  ·cases he
 ·split at he
  ·exact key he
  ·cases he
 ·split at he
  ·simp only [aaa,aae] at he;obtain ⟨rfl,rfl⟩:=he;exact ⟨rfl,fun g=>rfl⟩
  ·simp only [aaa,aae] at he;obtain ⟨rfl,rfl⟩:=he;exact ⟨rfl,fun g=>rfl⟩
  ·cases he
 ·split at he
  ·exact key he
  ·cases he
 ·split at he
  ·obtain ⟨hf,he⟩:=zv he
   simp only [hf,cond_true]
   exact key he
  ·cases he
 ·split at he
  ·split at he
   ·simp only [aaa,aae] at he;obtain ⟨rfl,rfl⟩:=he;exact ⟨rfl,fun g=>rfl⟩
   ·cases he
  ·cases he
 ·split at he
  ·simp only [aaa,aae] at he;obtain ⟨rfl,rfl⟩:=he;exact ⟨rfl,fun g=>rfl⟩
  ·cases he
 ·split at he
  ·exact key he
  ·cases he
 ·split at he
  ·split at he
   ·split at he
    ·exact key he
    ·cases he
   ·cases he
  ·cases he
 ·split at he
  ·exact key he
  ·cases he
 ·split at he
  ·obtain ⟨hf,he⟩:=zv he
   simp only [hf,cond_true]
   exact key he
  ·cases he
 ·split at he
  ·exact key he
  ·cases he
 ·exfalso
  rename_i b args ts
  cases hq:Xo b <;> rw [hq] at hk <;> cases hk
theorem Ky {q:FuncId->Nat} {s:Env} {o:Oper} {h h':za} {u:Value} (hk:xB q o=1) (hc:Vh o.op=false) (he:Jt P s o h=some (u,h')):h'=h:=by
 unfold xB at hk
 unfold Jt at he
 split at he <;> rename_i yF <;> simp only [yF] at hk <;> first
  | (cases he;done)
  | (cases hk;done)
  | skip
 ·split at he
  ·exact (wq he).2
  ·cases he
 ·split at he
  ·split at he
   ·simp only [aaa,aae] at he;exact he.2.symm
   ·cases he
  ·exact (wq he).2
  ·cases he
 ·rename_i b args ts
  split at he
  ·refine Ka ?_ he
   cases hq:Xo b with
   | true=>rfl
   | false=>rw [hq] at hk;cases hk
  ·cases he
 ·split at he
  ·exact (wq he).2
  ·cases he
 ·split at he
  ·exact (wq he).2
  ·cases he
theorem gF {q:FuncId->Nat} {s:Env} {o:Oper} {h h':za} {u:Value} (hk:xB q o=2) (hc:Vh o.op=false) (he:Jt P s o h=some (u,h')):Still h h':=by
 refine (Zz he).2 ?_
 unfold xB at hk
 split at hk <;> rename_i yF <;> first
  | (cases hk;done)
  | (rw [yF] at hc;cases hc;done)
  | (rw [yF];rfl)
  | skip
 rename_i b args ts
 cases hq:Xo b <;> rw [hq] at hk <;> cases hk
end
end Go.Ai
