/- A part of the proof. -/
import Derived.Test.YtcecapkbglnejaaGreatDoorTC
import Derived.ChangeSame
import Derived.Carry
import Derived.ProofKit
import Derived.ChangeStays
import Derived.ChangeArms
import Derived.SizedLaws
set_option linter.unusedVariables false
set_option linter.unusedSimpArgs false
set_option maxRecDepth 100000
namespace Go.Ai
noncomputable section
variable {P:Program} {cls:List Nat}
def Frames (rec:YZ):Prop := ∀ t h o h',rec t h=some (o,h')->AF h h'
def WF (h:za):Prop := ∀ b o,h.get b=some o->b < h.next
theorem WF.af {h h':za} (w:WF h) (a:AF h h'):WF h':=by
 intro b o hb
 rcases a.alive b o hb with h1 | ⟨_,h2⟩
 ·obtain ⟨o',ho'⟩:∃ o,h.get b=some o:=by cases hh:h.get b with | none=>exact absurd hh h1 | some o=>exact ⟨o,rfl⟩
  exact Sq (w b o' ho') a.next
 ·exact h2
theorem AF.lock {h h':za} (a:AF h.lock h'):h.next<=h'.next /\ ∀ b o,h'.get b=some o->h.get b ≠ none\/(h.next<=b/\b < h'.next):=⟨a.next,a.alive⟩
theorem AF.qv {h h2:za} (hn:h.next<=h2.next):AF h (qv h h2):=⟨hn,rfl,fun b o hb=>by
 rw [qH] at hb
 split at hb
 ·rename_i hc;exact .inr hc
 ·exact .inl (by rw [hb];simp)⟩
def KK (ops:Array Oper) (ms:List Nat):Prop := ∀ k q,(ms.getD k 0).testBit q=true->Prec ops q k
theorem q8 {ops:Array Oper} {ms:List Nat} (hm:KK ops ms) {i:Nat} {o:Oper} (ho:ops[i]? = some o) {q:Nat} (h:(y8 ms o).testBit q=true):Prec ops q i:=by
 have key:∀ (l:List Edge) (m:Nat),(∀ e,e ∈ l->e ∈ o.after)->(l.foldl (fun m e=>cond (Region.binds .any e) (m ||| (1 <<< e.on) ||| ms.getD e.on 0) m) m).testBit q=true->m.testBit q=true\/Prec ops q i:=by
  intro l
  induction l with
  | nil=>intro m _ h;exact .inl h
  | cons e l ih=>
    intro m hl h
    rw [List.foldl_cons] at h
    rcases ih _ (fun x hx=>hl x (by simp [hx])) h with h1 | h1
    ·cases hb:Region.binds .any e with
     | false=>rw [hb] at h1;exact .inl h1
     | true=>
       rw [hb] at h1
       simp only [SA,Nat.testBit_or,Tb] at h1
       rcases h1 with (h1 | h1) | h1
       ·exact .inl h1
       ·rw [Nat.testBit_shiftLeft] at h1
        simp only [Sm,SZ,Nat.testBit_one_eq_true_iff_self_eq_zero] at h1
        have:q=e.on:=by omega
        subst this
        exact .inr (.one ho (hl e (by simp)) hb)
       ·exact .inr (.more ho (hl e (by simp)) hb (hm _ _ h1))
    ·exact .inr h1
 rcases key o.after.toList 0 (fun e he=>by simpa using he) h with h1 | h1
 ·simp at h1
 ·exact h1
theorem Vg {ops:Array Oper} {ms:List Nat} (hm:KK ops ms) {i:Nat} (hl:ms.length=i) {o:Oper} (ho:ops[i]? = some o):KK ops (ms ++ [y8 ms o]):=by
 intro k q h
 rcases Nat.lt_trichotomy k i with hk | hk | hk
 ·rw [SU,Tl (by omega),<- SU] at h
  exact hm k q h
 ·subst hk
  rw [SU,Tu (by omega),hl] at h
  simp at h
  exact q8 hm ho h
 ·rw [SU,Sr (by simp;omega)] at h
  simp at h
theorem iy (A:List yF) (r:yF) (p:yF->Bool):vA (A ++ [r]) p=if p r=true then some r else vA A p:=by
 simp only [vA,SW,TF,List.filter_nil]
 by_cases h:p r=true
 ·simp [h]
 ·simp [h]
theorem Q3 (A:List yF) (r:yF) (s0:Env) (t:Nat):Vm (A ++ [r]) s0 t=if r.o.dst=some t then r.v else Vm A s0 t:=by
 simp only [Vm,iy,Vv,SZ]
 by_cases h:r.o.dst=some t <;> simp [h]
theorem J9 (A:List yF) (r:yF) (h0:za) (b:Nat):YO (A ++ [r]) h0 b=if r.tc b=true then r.g'.get b else YO A h0 b:=by
 simp only [YO,iy]
 by_cases h:r.tc b=true <;> simp [h]
structure PL (y:dU):Prop where
 tc:y.all=false->∀ b,y.r.tc b=true ↔ b ∈ y.An
 lt:∀ b,y.all=true->y.r.tc b=true->True
 KF:y.KF=true->(∀ b,y.r.rd b=false) /\ ∀ b,y.r.tc b=false
 ex:y.ex=true->∀ b,y.r.rd b=true->b ∈ y.NX
theorem Db {ops:Array Oper} {x y:dU} (hx:PL x) (hy:PL y) (hs:ZN ops x.r.o y.r.o=true) (h:y.KF=true\/il x y=true):eS ops x.r y.r:=by
 simp only [ZN,Sm] at hs
 obtain ⟨h1,h2⟩:=hs
 have hd1:∀ d,x.r.o.dst=some d->d ∉ y.r.o.looksAt ops/\y.r.o.dst ≠ some d:=by
  intro d hd
  rw [hd] at h1
  simp only [Sm,Sz,SL,SM] at h1
  exact ⟨h1.1,h1.2⟩
 have hd2:∀ d,y.r.o.dst=some d->d ∉ x.r.o.looksAt ops:=by
  intro d hd
  rw [hd] at h2
  simp only [Sz,SL,SM] at h2
  exact h2
 rcases h with hl | h
 ·obtain ⟨l1,l2⟩:=hy.KF hl
  exact ⟨hd1,hd2,fun b _=>⟨l1 b,l2 b⟩,fun b hb=>by rw [l2 b] at hb;cases hb⟩
 simp only [il,Sm] at h
 obtain ⟨h3,h4⟩:=h
 refine ⟨hd1,hd2,?_,?_⟩
 ·intro b hb
  cases ha:x.all with
  | true=>
    rw [ha] at h3
    simp only [SA,Tb,Sm,Sz,SV] at h3
    rcases h3 with h3 | ⟨⟨⟨h3,h5⟩,h6⟩,h7⟩
    ·exact ⟨(hy.KF h3).1 b,(hy.KF h3).2 b⟩
    ·refine ⟨?_,?_⟩
     ·cases hr:y.r.rd b with
      | false=>rfl
      | true=>have:=h6 b (hy.ex h3 b hr);rw [hb] at this;cases this
     ·cases hr:y.r.tc b with
      | false=>rfl
      | true=>have:=h7 b ((hy.tc h5 b).1 hr);rw [hb] at this;cases this
  | false=>
    rw [ha] at h3
    simp only [SK,SV,Sm,Sz] at h3
    exact h3 b ((hx.tc ha b).1 hb)
 ·intro b hb
  cases ha:y.all with
  | true=>
    rw [ha] at h4
    simp only [SA,Tb,Sm,Sz,SV] at h4
    rcases h4 with h4 | ⟨h4,h5⟩
    ·exact (hx.KF h4).1 b
    ·cases hr:x.r.rd b with
     | false=>rfl
     | true=>have:=h5 b (hx.ex h4 b hr);rw [hb] at this;cases this
  | false=>
    rw [ha] at h4
    simp only [SK,SV,Sz] at h4
    exact h4 b ((hy.tc ha b).1 hb)
structure u4 (P:Program) (ops:Array Oper) (s0:Env) (h0:za) (A:List yF) (i:Nat) (s:Env) (h:za):Prop where
 js:A.map (·.j)=List.range i
 env:∀ t,s.get t=Vm A s0 t
 size:s.size=s0.size
 heap:∀ b,h.get b=YO A h0 b
 ro:h.ro=h0.ro
 next:h0.next<=h.next
 nA:∀ x,x ∈ A->x.g'.next<=h.next
 wf:WF h
 told:∀ A1 r A2,A=A1 ++ r :: A2->Told P ops s0 h0 A1 r
 VG:∀ A1 r A2,A=A1 ++ r :: A2->∀ e,e ∈ r.o.after->Region.binds .any e=true->∃ x,x ∈ A1/\x.j=e.on
 apart:∀ A1 x A2 y A3,A=A1 ++ x :: (A2 ++ y :: A3)->Prec ops x.j y.j\/eS ops x y
theorem EA {rec:YZ} (S:Sound P rec) (hF:Frames rec) (hC:Z3 P cls=true) {ops:Array Oper} {s0:Env} {h0:za} {A:List yF} {recs:List dU} {i mask:Nat} {o:Oper} {os:List Oper} {s:Env} {h h1:za} {y:dU}
  (F:u4 P ops s0 h0 A i s h) (ho:ops[i]? = some o) (hput:∀ d,o.dst=some d->d < s.size) (he:gQ P cls rec ops recs mask i os o s h=some (y,h1)) :
  y.r.j=i/\y.r.o=o/\PL y/\Told P ops s0 h0 A y.r/\(∀ b,h1.get b=if y.r.tc b=true then y.r.g'.get b else h.get b)/\h1.ro=h.ro/\h.next<=h1.next/\y.r.g'.next<=h1.next/\WF h1:=by
 unfold gQ at he
 cases hw:yw ops s o with
 | false=>
   rw [hw] at he
   simp only [SK,Se,Sh] at he
   obtain ⟨rfl,rfl⟩:=he
   refine ⟨rfl,rfl,⟨fun _ b=>by simp,fun _ _ _=>trivial,fun _=>⟨fun _=>rfl,fun _=>rfl⟩,fun _ b hb=>(by cases hb)⟩,⟨ho,F.env,F.size,fun b=>by rw [qb];simp,F.ro,F.next,F.nA,Sp _,.inl ⟨hw,rfl,rfl⟩,fun d hd=>by rw [<- F.size];exact hput d hd,fun b hb=>(by cases hb),fun b _=>rfl,fun b o' hb=>(by cases hb)⟩,fun b=>by simp,rfl,Sp _,Sp _,F.wf⟩
 | true=>
   rw [hw] at he
   simp only [SA] at he
   split at he
   ·
    rename_i f args ts yU
    split at he
    case h_2=>cases he
    rename_i g fa fc vs hf hargs
    split at he
    ·
     rename_i hk
     have hlt:∀ b,b ∈ (((recs.flatMap fun x=>cond (mask.testBit x.r.j) [] (x.An ++ x.NX)) ++ JP s ((o :: os).filterMap (·.dst)) os (i + 1) (1 <<< i)).filter fun b=>Nat.blt b h.next)->b < h.next:=fun b hb=>by
      simpa [S6] using (TV.1 hb).2
     generalize (((recs.flatMap fun x=>cond (mask.testBit x.r.j) [] (x.An ++ x.NX)) ++ JP s ((o :: os).filterMap (·.dst)) os (i + 1) (1 <<< i)).filter fun b=>Nat.blt b h.next)=hid at *
     split at he
     case h_2=>cases he
     rename_i v h' hrec
     simp only [Se,Sh] at he
     obtain ⟨rfl,rfl⟩:=he
     have af:=hF _ _ _ _ hrec
     have hwfh:WF (h.UP hid):=fun b o' hb=>by
      rw [YN] at hb
      split at hb
      ·cases hb
      ·exact F.wf b o' hb
     have hwf:=hwfh.af af
     have hn:h.next<=h'.next:=af.next
     have hgone:∀ b,b ∈ hid->h'.get b=none:=by
      intro b hb
      cases hh:h'.get b with
      | none=>rfl
      | some o'=>
        rcases af.alive b o' hh with h2 | ⟨h2,_⟩
        ·rw [YN,Sn hb] at h2;exact absurd rfl h2
        ·have:h.next<=b:=h2
         have:=hlt b hb;omega
     have hbeyond:∀ b,¬ b < h'.next->h'.get b=none/\h.get b=none:=by
      intro b hb
      refine ⟨?_,?_⟩
      ·cases hh:h'.get b with | none=>rfl | some o'=>exact absurd (hwf b o' hh) hb
      ·cases hh:h.get b with | none=>rfl | some o'=>exact absurd (Sq (F.wf b o' hh) hn) hb
     refine ⟨rfl,rfl,⟨fun ha=>(by cases ha),fun _ _ _=>trivial,fun hl=>(by cases hl),fun hl=>(by cases hl)⟩,⟨ho,F.env,F.size,fun b => ?_,F.ro,F.next,F.nA,hn,.inr ⟨hw,.inr (.inl ⟨f,args,ts,g,fa,fc,vs,yU,hf,hargs,Zu hC hk,S.call _ _ _ _ _ hrec⟩)⟩,fun d hd=>by rw [<- F.size];exact hput d hd,fun b hb => ?_,fun b hb => ?_,fun b o' _ hlt2 hb => ?_⟩,fun b => ?_,af.ro,hn,Sp _,?_⟩
     ·rw [YN]
      simp only [Sm,S6,Sz,SM,SL]
      by_cases hm:b ∈ hid
      ·rw [Sn hm,Sl (fun hc=>hc.2 hm)]
      ·rw [Sl hm]
       by_cases hb:b < h.next
       ·rw [Sn ⟨hb,hm⟩];exact F.heap b
       ·rw [Sl (fun hc=>hb hc.1)]
        cases hh:h.get b with
        | none=>rfl
        | some o'=>exact absurd (F.wf b o' hh) hb
     ·simp only [Sm,S6,Sz,SM,SL] at hb ⊢
      by_cases hb2:b < h.next
      ·exact .inl ⟨hb2,hb.2⟩
      ·exact .inr ⟨aai hb2,hb.1⟩
     ·show h'.get b=(h.UP hid).get b
      rw [YN]
      by_cases hm:b ∈ hid
      ·rw [Sn hm,hgone b hm]
      ·rw [Sl hm]
       have hb':¬ b < h'.next:=by
        intro hc
        have h3:(Nat.blt b h'.next && !hid.contains b)=true:=by simpa [S6] using ⟨hc,hm⟩
        exact aap ((show (Nat.blt b h'.next && !hid.contains b)=false from hb).symm.trans h3)
       rw [(hbeyond b hb').1,(hbeyond b hb').2]
     ·rcases af.alive b o' hb with h2 | ⟨h2,_⟩
      ·exact h2
      ·exact absurd hlt2 (by show ¬ b < (h.UP hid).next;omega)
     ·rw [Jb]
      simp only [Sm,S6,Sz,SM,SL]
      by_cases hm:b ∈ hid
      ·rw [Sn hm,Sl (fun hc=>hc.2 hm)]
      ·rw [Sl hm]
       by_cases hb:b < h'.next
       ·rw [Sn ⟨hb,hm⟩]
       ·rw [Sl (fun hc=>hb hc.1),(hbeyond b hb).1,(hbeyond b hb).2]
     ·intro b o' hb
      rw [Jb] at hb
      show b < h'.next
      split at hb
      ·exact Sq (F.wf b o' hb) hn
      ·exact hwf b o' hb
    ·
     rename_i hk
     split at he
     case h_2=>cases he
     rename_i v h2 hrec
     obtain ⟨hsc,he⟩:=zv he
     simp only [Se,Sh] at he
     obtain ⟨rfl,rfl⟩:=he
     generalize (recs.flatMap fun x=>cond (mask.testBit x.r.j) [] x.An)=hid at *
     have hq:TC P g (fa.toList ++ vs ++ fc.toList) (h.UP hid) (fun v1 h1=>v1=v/\h1=h.UP hid) :=
      ((S.call _ _ _ _ _ hrec).quiet (fun v2 h2 q=>by rw [q.1];exact hsc)).mono (by rintro v2 h3 ⟨⟨h4,q1,q2⟩,rfl⟩;exact ⟨q1,rfl⟩)
     refine ⟨rfl,rfl,⟨fun _ b=>by simp,fun _ _ _=>trivial,fun hl=>(by cases hl),fun hl=>(by cases hl)⟩,⟨ho,F.env,F.size,fun b => ?_,F.ro,F.next,F.nA,Sp _,.inr ⟨hw,.inr (.inl ⟨f,args,ts,g,fa,fc,vs,yU,hf,hargs,Zu hC hk,hq⟩)⟩,fun d hd=>by rw [<- F.size];exact hput d hd,fun b hb=>(by cases hb),fun b _=>rfl,fun b o' hb=>(by cases hb)⟩,fun b=>by simp,rfl,Sp _,Sp _,F.wf⟩
     rw [YN]
     simp only [Sm,S6,Sz,SM,SL]
     by_cases hm:b ∈ hid
     ·rw [Sn hm,Sl (fun hc=>hc.2 hm)]
     ·rw [Sl hm]
      by_cases hb:b < h.next
      ·rw [Sn ⟨hb,hm⟩];exact F.heap b
      ·rw [Sl (fun hc=>hb hc.1)]
       cases hh:h.get b with
       | none=>rfl
       | some o'=>exact absurd (F.wf b o' hh) hb
    ·
     rename_i hk
     split at he
     case h_2=>cases he
     rename_i v h2 hrec
     simp only [Se,Sh] at he
     obtain ⟨rfl,rfl⟩:=he
     generalize (recs.flatMap fun x=>cond (mask.testBit x.r.j) [] x.An)=hid at *
     have af:=(hF _ _ _ _ hrec).lock
     have hn:h.next<=h2.next:=af.1
     refine ⟨rfl,rfl,⟨fun _ b=>by simp,fun _ _ _=>trivial,fun hl=>(by cases hl),fun hl=>(by cases hl)⟩,⟨ho,F.env,F.size,fun b => ?_,F.ro,F.next,F.nA,hn,.inr ⟨hw,.inr (.inl ⟨f,args,ts,g,fa,fc,vs,yU,hf,hargs,Zu hC hk,(S.call _ _ _ _ _ hrec).fresh⟩)⟩,fun d hd=>by rw [<- F.size];exact hput d hd,fun b hb => ?_,fun b hb => ?_,fun b o' hb hlt _ => ?_⟩,fun b => ?_,rfl,hn,Sp _,F.wf.af (.qv hn)⟩
     ·rw [YN]
      simp only [Sm,S6,Sz,SM,SL]
      by_cases hm:b ∈ hid
      ·rw [Sn hm,Sl (fun hc=>hc.2 hm)]
      ·rw [Sl hm]
       by_cases hb:b < h.next
       ·rw [Sn ⟨hb,hm⟩];exact F.heap b
       ·rw [Sl (fun hc=>hb hc.1)]
        cases hh:h.get b with
        | none=>rfl
        | some o'=>exact absurd (F.wf b o' hh) hb
     ·simp only [SM,SZ,j9] at hb
      exact .inr hb
     ·simp only [SM,SL,j9] at hb
      simp only [qH]
      rw [Sl (show ¬((h.UP hid).next<=b/\b < h2.next) from hb)]
     ·simp only [SM,SZ,j9] at hb
      exact absurd hlt (by show ¬ b < h.next;omega)
     ·simp only [SM,SZ,j9,qH]
      by_cases hb:h.next<=b/\b < h2.next
      ·rw [Sn hb,Sn hb,Sn (show (h.UP hid).next<=b/\b < h2.next from hb)]
      ·rw [Sl hb,Sl hb]
    ·
     split at he
     case h_2=>cases he
     rename_i v g' hop2
     simp only [Se,Sh] at he
     obtain ⟨rfl,rfl⟩:=he
     have still:=Xb hop2
     have af:=still.af
     have hn:h.next<=g'.next:=af.next
     have hro:g'.ro=h.ro:=af.ro
     refine ⟨rfl,rfl,⟨fun _ b=>by simp,fun _ _ _=>trivial,fun hl => ?_,fun _ b hb=>(by cases hb)⟩,⟨ho,F.env,F.size,fun b=>by rw [qb];simp,F.ro,F.next,F.nA,hn,.inr ⟨hw,.inr (.inr ⟨f,args,ts,g,fa,fc,vs,yU,hf,hargs,hop2⟩)⟩,fun d hd=>by rw [<- F.size];exact hput d hd,fun b hb => ?_,fun b hb => ?_,fun b o' hb hlt hg => ?_⟩,fun b => ?_,rfl,hn,Sp _,?_⟩
     ·simp only [List.isEmpty_iff] at hl
      refine ⟨fun b=>rfl,fun b => ?_⟩
      show (List.range' h.next (g'.next - h.next)).contains b=false
      rw [hl];rfl
     ·simp only [SM,SZ,j9] at hb
      exact .inr hb
     ·simp only [SM,SL,j9] at hb
      rcases still with e | ⟨ob,e⟩
      ·rw [e]
      ·rw [e,za.uA]
       split
       ·rename_i eb
        exact absurd ⟨by rw [eb];exact Sp _,by rw [eb,e];exact Tv _⟩ hb
       ·rfl
     ·simp only [SM,SZ,j9] at hb
      exact absurd hlt (by show ¬ b < h.next;omega)
     ·rw [Qj]
      simp only [SM,SZ]
     ·intro b o' hb
      rw [Qj] at hb
      split at hb
      ·rename_i hm
       exact (j9.1 hm).2
      ·exact Sq (F.wf b o' hb) hn
   ·
    rename_i hnc
    split at he
    case h_2=>cases he
    rename_i v g' yU
    simp only [Se,Sh] at he
    obtain ⟨rfl,rfl⟩:=he
    obtain ⟨af,still⟩:=Yv yU
    generalize hbs:HD s o h=bs at *
    have hn:h.next<=g'.next:=af.next
    have hmemtc:∀ b,b ∈ (cond (Xr o.op) (bs ++ List.range' h.next (g'.next - h.next)) (List.range' h.next (g'.next - h.next))) ↔ (Xr o.op=true/\b ∈ bs)\/(h.next<=b/\b < g'.next):=by
     intro b
     cases Xr o.op with
     | true=>simp only [SA,Ta,j9,aab]
     | false=>simp only [SK,j9,Ti,false_and,false_or]
    generalize htcl:(cond (Xr o.op) (bs ++ List.range' h.next (g'.next - h.next)) (List.range' h.next (g'.next - h.next)))=An at *
    have hnew:∀ b,¬ (h.next<=b/\b < g'.next)->b ∉ bs\/Xr o.op=false->g'.get b=(h.pick bs).get b:=by
     intro b hb hor
     cases hwr:Xr o.op with
     | false=>
       rcases still hwr with e | ⟨ob,e⟩
       ·rw [e]
       ·rw [e,za.uA]
        split
        ·rename_i eb
         exact absurd ⟨by rw [eb];exact Sp _,by rw [eb,e];exact Tv _⟩ hb
        ·rfl
     | true=>
       rcases hor with hor | hor
       ·have e0:(h.pick bs).get b=none:=by rw [qb,Sl hor]
        rw [e0]
        cases hh:g'.get b with
        | none=>rfl
        | some o'=>
          rcases af.alive b o' hh with h2 | h2
          ·exact absurd e0 h2
          ·exact absurd h2 hb
       ·rw [hwr] at hor;cases hor
    have hro:g'.ro=h.ro:=af.ro
    refine ⟨rfl,rfl,⟨fun _ b=>by simp,fun _ _ _=>trivial,fun hl => ?_,fun _ b hb=>by simpa using hb⟩,⟨ho,F.env,F.size,fun b => ?_,F.ro,F.next,F.nA,hn,.inr ⟨hw,.inl yU⟩,fun d hd=>by rw [<- F.size];exact hput d hd,fun b hb => ?_,fun b hb => ?_,fun b o' hb hlt hg => ?_⟩,fun b => ?_,rfl,hn,Sp _,?_⟩
    ·simp only [Sm,List.isEmpty_iff] at hl
     obtain ⟨e1,e2⟩:=hl
     subst e1 e2
     exact ⟨fun b=>rfl,fun b=>rfl⟩
    ·rw [qb]
     simp only [SM,SZ]
     split
     ·exact F.heap b
     ·rfl
    ·simp only [SM,SZ] at hb ⊢
     rcases (hmemtc b).1 hb with h2 | h2
     ·exact .inl h2.2
     ·exact .inr h2
    ·simp only [SM,SL] at hb
     have hb2:=fun hc=>hb ((hmemtc b).2 hc)
     refine hnew b (fun hc=>hb2 (.inr hc)) ?_
     cases hwr:Xr o.op with
     | false=>exact .inr rfl
     | true=>exact .inl (fun hc=>hb2 (.inl ⟨hwr,hc⟩))
    ·rcases af.alive b o' hg with h2 | ⟨h2,_⟩
     ·exact h2
     ·exact absurd hlt (by show ¬ b < (h.pick bs).next;omega)
    ·rw [Qj]
     simp only [SM,SZ]
    ·intro b o' hb
     rw [Qj] at hb
     split at hb
     ·rcases af.alive b o' hb with h2 | ⟨_,h2⟩
      ·rw [qb] at h2
       split at h2
       ·obtain ⟨o2,ho2⟩:∃ o,h.get b=some o:=by cases hh:h.get b with | none=>exact absurd hh h2 | some o=>exact ⟨o,rfl⟩
        exact Sq (F.wf b o2 ho2) hn
       ·exact absurd rfl h2
      ·exact h2
     ·exact Sq (F.wf b o' hb) hn
end
noncomputable section
variable {P:Program} {cls:List Nat}
theorem u3 {α:Type} {A A1 A2:List α} {y r:α} (e:A ++ [y]=A1 ++ r :: A2):(A2 = []/\A1=A/\r=y) \/ ∃ A3,A2=A3 ++ [y]/\A=A1 ++ r :: A3:=by
 rcases List.eq_nil_or_concat A2 with h | ⟨A3,z,h⟩
 ·subst h
  have:=List.append_inj' e rfl
  simp at this
  exact .inl ⟨rfl,this.1.symm,this.2.symm⟩
 ·subst h
  rw [List.concat_eq_append] at *
  have e2:A ++ [y]=(A1 ++ r :: A3) ++ [z]:=by rw [e];simp
  have:=List.append_inj' e2 rfl
  simp at this
  exact .inr ⟨A3,by rw [this.2],this.1⟩
theorem nC {rec:YZ} (S:Sound P rec) (hF:Frames rec) (hC:Z3 P cls=true) {ops:Array Oper} {s0:Env} {h0:za}:∀ (l:List Oper) (i:Nat) (ms:List Nat) (recs:List dU) (s:Env) (h:za) {s':Env} {h':za},
  ops.toList.drop i=l->i<=ops.size->KK ops ms->ms.length=i->u4 P ops s0 h0 (recs.map (·.r)).reverse i s h->(∀ x,x ∈ recs->PL x)->YS ops l i ms (recs.map fun x=>(x.r.j,x.r.o))=true->Uo P cls rec ops l i ms recs s h=some (s',h') ->
  ∃ A,u4 P ops s0 h0 A ops.size s' h'
 | [],i,ms,recs,s,h,s',h',hl,hle,hm,hml,F,hok,hst,he=>by
   simp only [Uo,Se,Sh] at he
   obtain ⟨rfl,rfl⟩:=he
   have:i=ops.size:=by
    have:=congrArg List.length hl
    simp at this
    omega
   subst this
   exact ⟨_,F⟩
 | o :: os,i,ms,recs,s,h,s',h',hl,hle,hm,hml,F,hok,hst,he=>by
   have ho:ops[i]? = some o:=by
    have:=congrArg (fun l=>l[0]?) hl
    simp only [S5,Si] at this
    simpa using this
   have hlt:i < ops.size:=by
    rcases SC i ops.size with h | h
    ·exact h
    ·rw [SN h] at ho;cases ho
   have hl':ops.toList.drop (i + 1)=os:=by rw [<- aat,hl];rfl
   simp only [Uo] at he
   simp only [YS,Sm] at hst
   obtain ⟨⟨hedge,hslots⟩,hst⟩:=hst
   split at he
   case h_2=>cases he
   rename_i y h1 yU
   obtain ⟨hind,he⟩:=zv he
   split at he
   case h_2=>cases he
   rename_i s1 hp
   have hput:∀ d,o.dst=some d->d < s.size:=by
    intro d hd
    rw [hd] at hp
    simp only [Env.put] at hp
    obtain ⟨hb,_⟩:=zv hp
    simpa [S6] using hb
   obtain ⟨hj,hyo,hfok,htold,hheap,hro,hnx,hyn,hwf⟩:=EA S hF hC F ho hput yU
   have hs1:∀ t,s1.get t=if o.dst=some t then y.r.v else s.get t:=by
    intro t
    cases hd:o.dst with
    | none=>rw [hd] at hp;simp only [Env.put,Se] at hp;subst hp;simp
    | some d=>
      rw [hd] at hp
      simp only [Env.put] at hp
      obtain ⟨_,hp⟩:=zv hp
      simp only [Se] at hp
      subst hp
      rw [Env.yD]
      by_cases e:t=d
      ·subst e;simp
      ·rw [Sl e,Sl (by simp only [Se];exact fun h=>e h.symm)]
   have hs1s:s1.size=s.size:=by
    cases hd:o.dst with
    | none=>rw [hd] at hp;simp only [Env.put,Se] at hp;subst hp;rfl
    | some d=>
      rw [hd] at hp
      simp only [Env.put] at hp
      obtain ⟨_,hp⟩:=zv hp
      simp only [Se] at hp
      subst hp;rfl
   have hrev:(List.map (·.r) (y :: recs)).reverse=(recs.map (·.r)).reverse ++ [y.r]:=by simp
   refine nC S hF hC os (i + 1) (ms ++ [y8 ms o]) (y :: recs) s1 h1 hl' hlt (Vg hm hml ho) (by simp [hml]) ?_ (fun x hx => ?_) (by simpa [hj,hyo] using hst) he
   ·rw [hrev]
    refine ⟨?_,?_,hs1s.trans F.size,?_,hro.trans F.ro,S4 F.next hnx,?_,hwf,?_,?_,?_⟩
    ·rw [aae,F.js,List.range_succ];simp [hj]
    ·intro t
     rw [hs1,Q3,hyo,F.env]
    ·intro b
     rw [hheap,J9,F.heap]
    ·intro x hx
     rcases Ta.1 hx with hx | hx
     ·exact S4 (F.nA x hx) hnx
     ·simp only [TI] at hx;subst hx;exact hyn
    ·intro A1 r A2 e
     rcases u3 e with ⟨_,rfl,rfl⟩ | ⟨A3,_,e3⟩
     ·exact htold
     ·exact F.told A1 r A3 e3
    ·intro A1 r A2 e ed hed hb
     rcases u3 e with ⟨_,rfl,rfl⟩ | ⟨A3,_,e3⟩
     ·rw [hyo] at hed
      simp only [SV,Tb,Sz,S6] at hedge
      rcases hedge ed (by simpa using hed) with h2 | h2
      ·rw [hb] at h2;cases h2
      ·have:ed.on ∈ (recs.map (·.r)).reverse.map (·.j):=by rw [F.js];exact TE.2 h2
       obtain ⟨x,hx,hxj⟩:=TH.1 this
       exact ⟨x,hx,hxj⟩
     ·exact F.VG A1 r A3 e3 ed hed hb
    ·intro A1 x A2 z A3 e
     have e':(recs.map (·.r)).reverse ++ [y.r]=(A1 ++ x :: A2) ++ z :: A3:=by rw [e];simp
     rcases u3 e' with ⟨_,e1,rfl⟩ | ⟨A4,_,e3⟩
     ·have hxm:x ∈ (recs.map (·.r)).reverse:=by rw [<- e1];simp
      rw [List.mem_reverse,TH] at hxm
      obtain ⟨fx,hfx,rfl⟩:=hxm
      simp only [SV,Tb] at hind hslots
      rcases hslots (fx.r.j,fx.r.o) (TH.2 ⟨fx,hfx,rfl⟩) with h2 | h2
      ·rw [hj];exact .inl (q8 hm ho h2)
      ·rw [<- hyo] at h2
       rcases hind with h3 | h3
       ·exact .inr (Db (hok fx hfx) hfok h2 (.inl h3))
       ·rcases h3 fx hfx with h4 | h4
        ·exact .inr (Db (hok fx hfx) hfok h2 (.inr h4))
        ·rw [hj];exact .inl (q8 hm ho h4)
     ·exact F.apart A1 x A2 z A4 (by rw [e3];simp)
   ·rcases Tq.1 hx with rfl | hx
    ·exact hfok
    ·exact hok x hx
theorem BI {rec:YZ} (S:Sound P rec) (hF:Frames rec) (hC:Z3 P cls=true) (hmix:P.follows .mixedOrders=true) {rd:Option Nat} {id:Nat} {ops:Array Oper} {s s':Env} {h h':za}
  (hst:YS ops ops.toList 0 [] []=true) (he:Uo P cls rec ops ops.toList 0 [] [] s h=some (s',h')):T P rd (.region id ops true) s h (fun e1 s1 h1=>e1 = .normal/\s1=s'/\h1=h'):=by
 intro ρ w tm ds hr
 have F0:u4 P ops s h ([]:List yF) 0 s h:=⟨rfl,fun t=>rfl,rfl,fun b=>rfl,rfl,Sp _,fun x hx=>(by cases hx),fun b o hb=>hr.UL b o hb,
  fun A1 r A2 e=>by simp at e,fun A1 r A2 e=>by simp at e,fun A1 x A2 y A3 e=>by simp at e⟩
 obtain ⟨A,F⟩:=nC S hF hC ops.toList 0 [] [] s h rfl (Th _) (fun k q hq=>by simp at hq) rfl F0 (fun x hx=>(by cases hx)) hst he
 have V:Valid P ops s h A:=⟨by rw [F.js];exact List.nodup_range,fun i hi=>by
   have:i ∈ A.map (·.j):=by rw [F.js];exact TE.2 hi
   obtain ⟨r,hr,hj⟩:=TH.1 this
   exact ⟨r,hr,hj⟩,F.told,F.VG,F.apart⟩
 exact VX hmix V F.env F.size F.heap F.ro F.next F.nA ⟨rfl,rfl,rfl⟩ ρ w tm ds hr
theorem GN {rec:YZ} (hF:Frames rec) {g:FuncId} {args:List Value} {h h':za} {v:Value} (he:sS cls rec g args h=some (v,h')):AF h h':=by
 unfold sS at he
 split at he
 ·split at he
  ·rename_i hrec
   simp only [Se,Sh] at he
   obtain ⟨_,rfl⟩:=he
   exact hF _ _ _ _ hrec
  ·cases he
 ·split at he
  ·obtain ⟨_,he⟩:=zv he
   simp only [Se,Sh] at he
   obtain ⟨_,rfl⟩:=he
   exact .refl _
  ·cases he
 ·split at he
  ·rename_i hrec
   simp only [Se,Sh] at he
   obtain ⟨_,rfl⟩:=he
   exact .qv (hF _ _ _ _ hrec).lock.1
  ·cases he
 ·cases he
theorem E9 {rec:YZ} (hF:Frames rec) {L:Nat} {args:List Value} {h h':za} {v:Value} (he:iS rec L args h=some (v,h')):AF h h':=by
 unfold iS at he
 split at he
 case h_2=>cases he
 rename_i A hg
 split at he
 case h_2=>cases he
 split at he
 case h_2=>cases he
 rename_i s1 h1 hrec
 split at he
 case h_2=>cases he
 rename_i A1 g1
 obtain ⟨_,he⟩:=zv he
 split at he
 case h_2=>cases he
 rename_i e s2 h2 hrec2
 split at he
 case h_2=>cases he
 rename_i A2 g2
 obtain ⟨_,he⟩:=zv he
 simp only [Se,Sh] at he
 obtain ⟨rfl,rfl⟩:=he
 exact (((hF _ _ _ _ hrec).trans (.UH g1 _)).trans (hF _ _ _ _ hrec2)).trans (.UH g2 _)
theorem E6 {rec:YZ} (hF:Frames rec) {rd:Option Nat} {f:Option Value} {params:Array Tmp} {as bd:Code} {s:Env} {h h':za} {e:Ex} (he:iO cls rec rd f params as bd s h=some (e,h')):AF h h':=by
 unfold iO at he
 split at he
 case h_2=>cases he
 obtain ⟨_,he⟩:=zv he
 split at he
 case h_2=>cases he
 rename_i v h1 hrec
 split at he
 case h_2=>cases he
 rename_i A hA
 obtain ⟨_,he⟩:=zv he
 split at he
 case h_2=>cases he
 simp only [Se,Sh] at he
 obtain ⟨_,rfl⟩:=he
 exact ((AF.push _ _).trans (hF _ _ _ _ hrec)).trans (.UH hA _)
theorem ED {rec:YZ} (hF:Frames rec) {s:Env} {o:Oper} {h h':za} {v:Value} (he:evalOp P cls rec s o h=some (v,h')):AF h h':=by
 unfold evalOp at he
 split at he
 ·split at he
  ·rename_i g fa fc vs _ _
   cases hk:Nat.beq (cls.getD g 0) 0 with
   | true=>
     rw [hk] at he
     simp only [SA] at he
     exact (Xb he).af
   | false=>
     rw [hk] at he
     simp only [SK] at he
     exact GN hF he
  ·obtain ⟨_,he⟩:=zv he
   exact E9 hF he
  ·cases he
 ·exact (Yv he).1
theorem cX {rec:YZ} (hF:Frames rec) {ops:Array Oper}:∀ (l:List Oper) {s s':Env} {h h':za},UC P cls rec ops l s h=some (s',h')->AF h h'
 | [],s,s',h,h',he=>by
   simp only [UC,Se,Sh] at he
   obtain ⟨_,rfl⟩:=he
   exact .refl _
 | o :: os,s,s',h,h',he=>by
   simp only [UC] at he
   cases hw:yw ops s o with
   | false=>
     rw [hw] at he
     simp only [SK] at he
     split at he
     ·exact cX hF os he
     ·cases he
   | true=>
     rw [hw] at he
     simp only [SA] at he
     split at he
     ·rename_i hev
      split at he
      ·exact (ED hF hev).trans (cX hF os he)
      ·cases he
     ·cases he
theorem CV {h g:za} {l:List Nat} (hn:h.next<=g.next) (hl:∀ b,b ∈ l->∀ o,g.get b=some o->h.get b ≠ none\/(h.next<=b/\b < g.next)):AF h (h.Lb g l):=⟨hn,rfl,fun b o hb=>by
 rw [Qj] at hb
 split at hb
 ·rename_i hm;exact hl b hm o hb
 ·exact .inl (by rw [hb];simp)⟩
theorem Ez {rec:YZ} (hF:Frames rec) {ops:Array Oper} {recs:List dU} {mask i:Nat} {o:Oper} {os:List Oper} {s:Env} {h h1:za} {y:dU} (he:gQ P cls rec ops recs mask i os o s h=some (y,h1)):AF h h1:=by
 unfold gQ at he
 cases hw:yw ops s o with
 | false=>
   rw [hw] at he
   simp only [SK,Se,Sh] at he
   obtain ⟨_,rfl⟩:=he
   exact .refl _
 | true=>
   rw [hw] at he
   simp only [SA] at he
   split at he
   ·split at he
    case h_2=>cases he
    split at he
    ·split at he
     case h_2=>cases he
     rename_i hrec
     simp only [Se,Sh] at he
     obtain ⟨_,rfl⟩:=he
     have af:=hF _ _ _ _ hrec
     refine ⟨af.next,af.ro,fun b o' hb => ?_⟩
     rw [Jb] at hb
     split at hb
     ·exact .inl (by rw [hb];simp)
     ·rcases af.alive b o' hb with h2 | h2
      ·rw [YN] at h2
       split at h2
       ·exact absurd rfl h2
       ·exact .inl h2
      ·exact .inr h2
    ·split at he
     case h_2=>cases he
     obtain ⟨_,he⟩:=zv he
     simp only [Se,Sh] at he
     obtain ⟨_,rfl⟩:=he
     exact .refl _
    ·split at he
     case h_2=>cases he
     rename_i hrec
     simp only [Se,Sh] at he
     obtain ⟨_,rfl⟩:=he
     have:=(hF _ _ _ _ hrec).lock.1
     exact .qv this
    ·split at he
     case h_2=>cases he
     rename_i v g' yU
     simp only [Se,Sh] at he
     obtain ⟨_,rfl⟩:=he
     have af:=(Xb yU).af
     refine CV af.next (fun b _ o' hb => ?_)
     rcases af.alive b o' hb with h2 | h2
     ·rw [qb] at h2
      split at h2
      ·exact .inl h2
      ·exact absurd rfl h2
     ·exact .inr h2
   ·split at he
    case h_2=>cases he
    rename_i v g' yU
    simp only [Se,Sh] at he
    obtain ⟨_,rfl⟩:=he
    have af:=(Yv yU).1
    refine CV af.next (fun b _ o' hb => ?_)
    rcases af.alive b o' hb with h2 | h2
    ·rw [qb] at h2
     split at h2
     ·exact .inl h2
     ·exact absurd rfl h2
    ·exact .inr h2
theorem nB {rec:YZ} (hF:Frames rec) {ops:Array Oper}:∀ (l:List Oper) (i:Nat) (ms:List Nat) (recs:List dU) {s s':Env} {h h':za},Uo P cls rec ops l i ms recs s h=some (s',h')->AF h h'
 | [],i,ms,recs,s,s',h,h',he=>by
   simp only [Uo,Se,Sh] at he
   obtain ⟨_,rfl⟩:=he
   exact .refl _
 | o :: os,i,ms,recs,s,s',h,h',he=>by
   simp only [Uo] at he
   split at he
   case h_2=>cases he
   rename_i y h1 yU
   obtain ⟨_,he⟩:=zv he
   split at he
   case h_2=>cases he
   exact (Ez hF yU).trans (nB hF os _ _ _ he)
theorem sR {rec:YZ} (hF:Frames rec):Frames (body P cls rec):=by
 intro t h o h' he
 cases t with
 | call f args=>
   simp only [body] at he
   split at he
   case h_1=>cases he
   split at he
   case h_1=>cases he
   split at he
   ·rename_i hrec
    split at he
    ·simp only [Se,Sh] at he;obtain ⟨_,rfl⟩:=he;exact hF _ _ _ _ hrec
    ·cases he
   ·rename_i hrec
    split at he
    ·simp only [Se,Sh] at he;obtain ⟨_,rfl⟩:=he;exact hF _ _ _ _ hrec
    ·cases he
   ·cases he
 | code rd c s=>
   cases c <;> simp only [body] at he
   case skip=>simp only [Se,Sh] at he;obtain ⟨_,rfl⟩:=he;exact .refl _
   case label=>simp only [Se,Sh] at he;obtain ⟨_,rfl⟩:=he;exact .refl _
   case exit=>simp only [Se,Sh] at he;obtain ⟨_,rfl⟩:=he;exact .refl _
   case ret=>simp only [Se,Sh] at he;obtain ⟨_,rfl⟩:=he;exact .refl _
   case region id ops draw=>
    cases draw with
    | true=>
      simp only [SA] at he
      obtain ⟨_,he⟩:=zv he
      split at he
      ·rename_i hd
       simp only [Se,Sh] at he;obtain ⟨_,rfl⟩:=he
       exact nB hF _ _ _ _ hd
      ·cases he
    | false=>
      simp only [SK] at he
      split at he
      ·rename_i hd
       simp only [Se,Sh] at he;obtain ⟨_,rfl⟩:=he
       exact cX hF _ hd
      ·cases he
   case seq a b=>
    split at he
    ·rename_i hrec;exact (hF _ _ _ _ hrec).trans (hF _ _ _ _ he)
    ·exact hF _ _ _ _ he
   case cond x a b=>
    split at he
    ·exact hF _ _ _ _ he
    ·exact hF _ _ _ _ he
    ·cases he
   case block id a=>
    split at he
    ·rename_i id' s1 h1 hrec
     cases hb:Nat.beq id' id with
     | true=>rw [hb] at he;simp only [SA,Se,Sh] at he;obtain ⟨_,rfl⟩:=he;exact hF _ _ _ _ hrec
     | false=>rw [hb] at he;simp only [SK,Se,Sh] at he;obtain ⟨_,rfl⟩:=he;exact hF _ _ _ _ hrec
    ·exact hF _ _ _ _ he
   case scope a=>exact hF _ _ _ _ he
   case loop a=>
    split at he
    ·rename_i hrec;exact (hF _ _ _ _ hrec).trans (hF _ _ _ _ he)
    ·exact hF _ _ _ _ he
   case rangeFunc f params as bd=>
    split at he
    ·rename_i hr
     simp only [Se,Sh] at he
     obtain ⟨_,rfl⟩:=he
     exact E6 hF hr
    ·cases he
   all_goals cases he
theorem BD {rec:YZ} (S:Sound P rec) (hF:Frames rec) (hC:Z3 P cls=true) (hmix:P.follows .mixedOrders=true):Sound P (body P cls rec):=by
 refine ⟨?_,?_,?_,?_⟩
 ·intro rd c s h e s' h' he
  cases c <;> simp only [body] at he
  case skip=>simp only [Se,Sh,Out.ex.injEq] at he;obtain ⟨⟨rfl,rfl⟩,rfl⟩:=he;exact Fz ⟨rfl,rfl,rfl⟩
  case label=>simp only [Se,Sh,Out.ex.injEq] at he;obtain ⟨⟨rfl,rfl⟩,rfl⟩:=he;exact CF ⟨rfl,rfl,rfl⟩
  case exit=>simp only [Se,Sh,Out.ex.injEq] at he;obtain ⟨⟨rfl,rfl⟩,rfl⟩:=he;exact Fy ⟨rfl,rfl,rfl⟩
  case ret=>simp only [Se,Sh,Out.ex.injEq] at he;obtain ⟨⟨rfl,rfl⟩,rfl⟩:=he;exact LM ⟨rfl,rfl,rfl⟩
  case region id ops draw=>
   cases draw with
   | true=>
     simp only [SA] at he
     obtain ⟨hst,he⟩:=zv he
     split at he
     ·rename_i hd
      simp only [Se,Sh,Out.ex.injEq] at he
      obtain ⟨⟨rfl,rfl⟩,rfl⟩:=he
      exact BI S hF hC hmix hst hd
     ·cases he
   | false=>
     simp only [SK] at he
     split at he
     ·rename_i hd
      simp only [Se,Sh,Out.ex.injEq] at he
      obtain ⟨⟨rfl,rfl⟩,rfl⟩:=he
      refine ri ?_
      have:=UD S hC ops.toList 0 rfl hd
      rw [Tz,<- List.range_eq_range'] at this
      intro ρ w tm ds hr hs b k cs
      obtain ⟨s1,h1,ρ1,w1,tm1,⟨q1,q2⟩,r⟩:=this ρ w tm ds hr hs b k cs
      exact ⟨s1,h1,ρ1,w1,tm1,⟨rfl,q1,q2⟩,r⟩
     ·cases he
  case seq a b=>
   refine CH ?_
   split at he
   ·rename_i s1 h1 hrec
    refine (S.code _ _ _ _ _ _ _ hrec).mono ?_
    rintro e1 s2 h2 ⟨rfl,rfl,rfl⟩
    exact S.code _ _ _ _ _ _ _ he
   ·rename_i hne
    refine (S.code _ _ _ _ _ _ _ he).mono ?_
    rintro e1 s2 h2 ⟨rfl,rfl,rfl⟩
    cases e1 with
    | normal=>exact (hne _ _ he).elim
    | exit id=>exact ⟨rfl,rfl,rfl⟩
    | ret=>exact ⟨rfl,rfl,rfl⟩
  case cond x a b=>
   split at he
   ·rename_i hx;exact n6 hx (by rw [Sn rfl];exact S.code _ _ _ _ _ _ _ he)
   ·rename_i hx;exact n6 hx (by rw [Sl (by decide)];exact S.code _ _ _ _ _ _ _ he)
   ·cases he
  case block id a=>
   refine Jx ?_
   split at he
   ·rename_i id' s1 h1 hrec
    refine (S.code _ _ _ _ _ _ _ hrec).mono ?_
    rintro e1 s2 h2 ⟨rfl,rfl,rfl⟩
    cases hb:Nat.beq id' id with
    | true=>
      rw [hb] at he
      simp only [SA,Se,Sh,Out.ex.injEq] at he
      obtain ⟨⟨rfl,rfl⟩,rfl⟩:=he
      rw [Sv hb,Sn rfl]
      exact ⟨rfl,rfl,rfl⟩
    | false=>
      rw [hb] at he
      simp only [SK,Se,Sh,Out.ex.injEq] at he
      obtain ⟨⟨rfl,rfl⟩,rfl⟩:=he
      rw [Sl (by
       intro hc
       cases hc
       rw [aaa] at hb;cases hb)]
      exact ⟨rfl,rfl,rfl⟩
   ·rename_i hne
    refine (S.code _ _ _ _ _ _ _ he).mono ?_
    rintro e1 s2 h2 ⟨rfl,rfl,rfl⟩
    cases e1 with
    | normal=>rw [Sl (by simp)];exact ⟨rfl,rfl,rfl⟩
    | exit id'=>exact (hne _ _ _ he).elim
    | ret=>rw [Sl (by simp)];exact ⟨rfl,rfl,rfl⟩
  case scope a=>exact CG (S.code _ _ _ _ _ _ _ he)
  case loop a=>
   refine WV ?_
   split at he
   ·rename_i s1 h1 hrec
    refine (S.code _ _ _ _ _ _ _ hrec).mono ?_
    rintro e1 s2 h2 ⟨rfl,rfl,rfl⟩
    exact S.code _ _ _ _ _ _ _ he
   ·rename_i hne
    refine (S.code _ _ _ _ _ _ _ he).mono ?_
    rintro e1 s2 h2 ⟨rfl,rfl,rfl⟩
    cases e1 with
    | normal=>exact (hne _ _ he).elim
    | exit id=>exact ⟨rfl,rfl,rfl⟩
    | ret=>exact ⟨rfl,rfl,rfl⟩
  case rangeFunc f params as bd=>
   split at he
   ·rename_i hr
    simp only [Se,Sh,Out.ex.injEq] at he
    obtain ⟨⟨rfl,rfl⟩,rfl⟩:=he
    exact pO S hC hr
   ·cases he
  all_goals cases he
 ·intro f args h v h' he
  simp only [body] at he
  split at he
  case h_1=>cases he
  rename_i fn hfn
  split at he
  case h_1=>cases he
  rename_i c hc
  have fin:∀ e s1 h1,(e = .normal\/e = .ret)->rec (.code none c (Env.enter args fn.ntmps)) h=some (.ex e s1,h1)->(match qO P s1 h1 fn.results.toList with | some vs=>some (Out.val (jT vs),h1) | none=>none)=some (.val v,h') ->
    TC P f args h (fun v1 h1=>v1=v/\h1=h'):=by
   intro e s1 h1 hee hrec hres
   split at hres
   ·rename_i vs hvs
    simp only [Se,Sh,Out.val.injEq] at hres
    obtain ⟨rfl,rfl⟩:=hres
    refine CB hfn hc ((S.code _ _ _ _ _ _ _ hrec).mono ?_)
    rintro e1 s2 h2 ⟨rfl,rfl,rfl⟩
    exact ⟨hee,vs,hvs,rfl,rfl⟩
   ·cases hres
  split at he
  ·rename_i s1 h1 hrec;exact fin _ s1 h1 (.inl rfl) hrec he
  ·rename_i s1 h1 hrec;exact fin _ s1 h1 (.inr rfl) hrec he
  ·cases he
 ·intro rd c s h o h' he
  cases c <;> simp only [body] at he
  case skip=>simp only [Se,Sh] at he;obtain ⟨rfl,_⟩:=he;exact ⟨_,_,rfl⟩
  case label=>simp only [Se,Sh] at he;obtain ⟨rfl,_⟩:=he;exact ⟨_,_,rfl⟩
  case exit=>simp only [Se,Sh] at he;obtain ⟨rfl,_⟩:=he;exact ⟨_,_,rfl⟩
  case ret=>simp only [Se,Sh] at he;obtain ⟨rfl,_⟩:=he;exact ⟨_,_,rfl⟩
  case region id ops draw=>
   cases draw with
   | true=>
     simp only [SA] at he
     obtain ⟨_,he⟩:=zv he
     split at he
     ·simp only [Se,Sh] at he;obtain ⟨rfl,_⟩:=he;exact ⟨_,_,rfl⟩
     ·cases he
   | false=>
     simp only [SK] at he
     split at he
     ·simp only [Se,Sh] at he;obtain ⟨rfl,_⟩:=he;exact ⟨_,_,rfl⟩
     ·cases he
  case seq a b=>
   split at he
   ·exact S.kind _ _ _ _ _ _ he
   ·exact S.kind _ _ _ _ _ _ he
  case cond x a b=>
   split at he
   ·exact S.kind _ _ _ _ _ _ he
   ·exact S.kind _ _ _ _ _ _ he
   ·cases he
  case block id a=>
   split at he
   ·rename_i id' s1 h1 hrec
    cases hb:Nat.beq id' id with
    | true=>rw [hb] at he;simp only [SA,Se,Sh] at he;obtain ⟨rfl,_⟩:=he;exact ⟨_,_,rfl⟩
    | false=>rw [hb] at he;simp only [SK,Se,Sh] at he;obtain ⟨rfl,_⟩:=he;exact ⟨_,_,rfl⟩
   ·exact S.kind _ _ _ _ _ _ he
  case scope a=>exact S.kind _ _ _ _ _ _ he
  case loop a=>
   split at he
   ·exact S.kind _ _ _ _ _ _ he
   ·exact S.kind _ _ _ _ _ _ he
  case rangeFunc f params as bd=>
   split at he
   ·simp only [Se,Sh] at he;obtain ⟨rfl,_⟩:=he;exact ⟨_,_,rfl⟩
   ·cases he
  all_goals cases he
 ·intro f args h o h' he
  simp only [body] at he
  split at he
  case h_1=>cases he
  split at he
  case h_1=>cases he
  split at he
  ·split at he
   ·simp only [Se,Sh] at he;obtain ⟨rfl,_⟩:=he;exact ⟨_,rfl⟩
   ·cases he
  ·split at he
   ·simp only [Se,Sh] at he;obtain ⟨rfl,_⟩:=he;exact ⟨_,rfl⟩
   ·cases he
  ·cases he
theorem Af (hC:Z3 P cls=true) (hmix:P.follows .mixedOrders=true):∀ n,Sound P (run P cls n)/\Frames (run P cls n)
 | 0=>⟨⟨fun rd c s h e s' h' he=>(by cases he),fun f args h v h' he=>(by cases he),fun rd c s h o h' he=>(by cases he),fun f args h o h' he=>(by cases he)⟩,fun t h o h' he=>(by cases he)⟩
 | n + 1=>by
   obtain ⟨S,F⟩:=Af hC hmix n
   exact ⟨BD S F hC hmix,sR F⟩
theorem DF (hC:Z3 P cls=true) (hmix:P.follows .mixedOrders=true) {n:Nat} {f:FuncId} {args:List Value} {h h':za} {v:Value} (he:run P cls n (.call f args) h=some (.val v,h')):TC P f args h (fun v1 h1=>v1=v/\h1=h') :=
 (Af hC hmix n).1.call _ _ _ _ _ he
def pV (n:Nat) (tabs:List (Nat × List Value)):za:=⟨tabs.foldl (fun t x=>t.set x.1 (some (.tab x.2))) .e,n,n⟩
theorem Ja {n:Nat} {tabs:List (Nat × List Value)} {b:Nat} {o:vi} (h:(pV n tabs).get b=some o):∃ c,(b,c) ∈ tabs/\o = .tab c:=by
 have key:∀ (l:List (Nat × List Value)) (t:Tr vi),(l.foldl (fun t x=>t.set x.1 (some (.tab x.2))) t).get b=some o->(∃ c,(b,c) ∈ l/\o = .tab c)\/t.get b=some o:=by
  intro l
  induction l with
  | nil=>intro t h;exact .inr h
  | cons x l ih=>
    intro t h
    rw [List.foldl_cons] at h
    rcases ih _ h with ⟨c,h1,h2⟩ | h1
    ·exact .inl ⟨c,by simp [h1],h2⟩
    ·rw [Tr.yD] at h1
     split at h1
     ·rename_i e
      simp only [Se] at h1
      subst e
      exact .inl ⟨x.2,by simp,h1.symm⟩
     ·exact .inr h1
 rcases key tabs .e h with h1 | h1
 ·exact h1
 ·cases h1
def p8 (w:World) (g:Nat) (c:List Value):Prop := ∃ cs t fz,w.heap[g]? = some (.cells cs t fz) /\ ∀ (i:Nat) x,c[i]? = some x->cs[i]? = some x
theorem Cj (P:Program) (w:World) (n:Nat) (tabs:List (Nat × List Value)) (hn:P.globals.size<=n) (hg:∀ x,x ∈ tabs->x.1 < n/\x.2.all flat=true/\p8 w x.1 x.2) :
  Rel P ⟨n,fun g=>some ⟨g,0,(match w.heap[g]? with | some (.cells cs _ _)=>cs.size | _=>0),0⟩⟩ (pV n tabs) w:=by
 refine ⟨rfl,Sp _,fun b o h => ?_,fun b o h => ?_,fun b1 b2 o1 o2 p1 p2 h1 h2 m1 m2 e => ?_,hn,fun b pl _ h => ?_⟩
 ·obtain ⟨c,h1,_⟩:=Ja h
  exact (hg _ h1).1
 ·obtain ⟨c,h1,rfl⟩:=Ja h
  obtain ⟨_,h2,cs,t,fz,h3,h4⟩:=hg _ h1
  refine ⟨_,rfl,t,cs,fz,h3,by simp only [h3],⟨rfl,Nat.zero_mod _⟩,?_,fun e=>(by cases e),fun i x hx=>⟨x,by simpa using h4 i x hx,?_⟩⟩
  ·show 0 + c.length<=cs.size
   rcases SC cs.size c.length with hl | hl
   ·have h5:=h4 cs.size _ (Sk hl)
    simp at h5
   ·omega
  ·simp only [SV] at h2
   exact .of_flat _ (h2 x (S7 hx))
 ·simp only [Se] at m1 m2
  subst m1 m2
  exact e
 ·simp only [Se] at h
  subst h
  exact ⟨rfl,rfl⟩
theorem Ff {ρ:xn} {v v':Value} (hv:cZ v=true) (hvr:zI ρ v v'):v'=v:=by
 cases v with
 | tuple a=>
   cases hvr with
   | tuple ha hr=>
     simp only [cZ,SV] at hv
     congr 1
     apply T7
     refine iA (by simpa using ha) (fun i x y hx hy => ?_)
     exact kF (hr i x y (by simpa using hx) (by simpa using hy)) (hv x (S7 hx))
 | _=>exact kF hvr hv
end
noncomputable section
variable {P:Program} {cls:List Nat}
structure Sub (h H:za):Prop where
 next:H.next=h.next
 ro:H.ro=h.ro
 get:∀ b o,H.get b=some o->h.get b=some o
theorem Rel.sub {ρ:xn} {h H:za} {w:World} (hr:Rel P ρ h w) (s:Sub h H):Rel P ρ H w :=
 ⟨hr.next.trans s.next.symm,by rw [s.ro,s.next];exact hr.ro,fun b o hb=>by rw [s.next];exact hr.UL b o (s.get b o hb),fun b o hb=>by rw [s.ro];exact hr.ok b o (s.get b o hb),
  fun b1 b2 o1 o2 p1 p2 h1 h2=>hr.inj b1 b2 o1 o2 p1 p2 (s.get _ _ h1) (s.get _ _ h2),by rw [s.ro];exact hr.cN,hr.Z7⟩
theorem Ju.sub {ρ:xn} {h H:za} (s:Sub h H) {c:Nat} (hm:Ju ρ H c):Ju ρ h c:=by
 obtain ⟨b,o,pl,hg,hro,hm,e⟩:=hm
 exact ⟨b,o,pl,s.get b o hg,by rw [<- s.ro];exact hro,hm,e⟩
theorem Step.sub {ρ ρ':xn} {h H h':za} {w w':World} (s:Sub h H) (st:Step P ρ H w ρ' h' w'):Step P ρ h w ρ' h' w' :=
 ⟨st.le,st.rel,st.ro.trans s.ro,st.os,st.tape,st.output,st.size,fun c hc hn=>st.frame c hc (fun hm=>hn (hm.sub s)),fun c hc hm=>(st.dY c hc hm).sub s⟩
def seen (k:Nat) (bs:List Nat):Option (Out × za)->Option (List Value × List (Option vi) × Nat × Nat × Nat)
 | some (.ex .normal s,h)=>some ((List.range k).map s.get,bs.map h.get,s.size,h.next,h.ro)
 | _=>none
end
noncomputable section
variable {P:Program} {cls:List Nat}
end
noncomputable section
open Go.ChangeShapes Go.WideShapes Go.ChangeAt Go.RowKit
variable {P:Program} {H:Type} {enc:TypeId × Value->H}
theorem post_of_below {f:Func} {s:ChangeSpec} {apart fresh handsOn again:Bool} {W W':World} {args:Array Value} {v:Value} {ds gs:List (DataW H)} {before pa pv:List MemPlace}
  (hW:DataW.Whole enc P f.params.toList s.vars apart W args.toList ds gs before)
  (hres:∀ (b:Nat) (sp:Nat->Bool) (hd:Bool),DataW.TrodAll enc P W' b sp hd f.resultTypes.toList (v.resultList f.resultTypes.size) (s.fn H (ds ++ gs)).results [])
  (hargs:∀ sp:Nat->Bool,(∀ p ∈ before,sp p.block=true)->DataW.TrodAll enc P W' 0 sp true f.params.toList args.toList (s.fn H (ds ++ gs)).args pa)
  (hvars:∀ sp:Nat->Bool,(∀ p ∈ before,sp p.block=true)->DataW.TrodVars enc P W' sp s.vars (s.fn H (ds ++ gs)).vars pv)
  (hps:before=pa ++ pv) (hb:Below W.heap.size W W')
  (hok:∀ (j:Nat) (t:TypeId) (r:Value),f.resultTypes[j]? = some t->(v.resultList f.resultTypes.size)[j]? = some r->Value.okWide P W' .any 0 t r) :
  s.post enc P f apart fresh handsOn again W args v W':=by
 have hold:∀ p ∈ before,(fun b=>decide (b < W.heap.size)) p.block=true:=fun p hp=>by simpa using hW.lt p hp
 refine ⟨ds,gs,before,[],pa,pv,hW,hres _ _ _,hargs _ hold,hvars _ hold,hb.frame _,fun _ => ?_⟩
 have hlt:∀ p ∈ before,p.block < W.heap.size:=fun p hp=>hW.lt p hp
 obtain ⟨_,_,_,_,_,hz,hn⟩:=hW
 refine ⟨hok,_,_,([] ++ pa) ++ pv,⟨[] ++ pa,pv,trodAll_append (hargs _ (fun _ _=>rfl)) (hres _ _ _),hvars _ (fun _ _=>rfl),rfl,?_,?_⟩,?_⟩
 ·intro b off hp
  have hp':MemPlace.cell b off ∈ before:=by rw [hps];simpa using hp
  rw [hb.frozen (p:=⟨b,off,none⟩) (hlt _ hp')]
  exact hz b off hp'
 ·intro ha
  have:=hn ha
  rw [hps] at this
  simpa using this
 ·intro p hp _
  rw [hps]
  simpa using hp
def Nz:Option (Out × za)->Bool
 | some (.val (.bool b),_)=>b
 | _=>false
theorem Lg {x:Option (Out × za)} (h:Nz x=true):∃ h',x=some (.val (.bool true),h'):=by
 unfold Nz at h
 split at h
 ·subst h;exact ⟨_,rfl⟩
 ·cases h
end
noncomputable section
variable {P:Program}
theorem Az {f:FuncId} {v:Value} {m:Nat} {tabs:List (Nat × List Value)} (hv:cZ v=true) (hn:P.globals.size<=m) (hfl:∀ x,x ∈ tabs->x.1 < m/\x.1 < P.globals.size/\x.2.all flat=true) (ht:TC P f [] (pV m tabs) (fun v1 _=>v1=v)) {h:za}
  (hh:∀ x,x ∈ tabs->∃ c t,h.get x.1=some (.cells c t) /\ ∀ (i:Nat) y,x.2[i]? = some y->c[i]? = some y):TC P f [] h (fun v1 h1=>v1=v/\h1=h):=by
 intro ρ w cargs hr hvl
 have hT:∀ x,x ∈ tabs->x.1 < m/\x.2.all flat=true/\p8 w x.1 x.2:=by
  intro x hx
  obtain ⟨f1,f2,f3⟩:=hfl x hx
  refine ⟨f1,f3,?_⟩
  obtain ⟨c,t,hc,hce⟩:=hh x hx
  obtain ⟨pl,hm,cs,fz,h1,h2,h3,h4,h5,h6⟩:=hr.ok x.1 _ hc
  obtain ⟨g1,g2⟩:=hr.Z7 x.1 pl f2 hm
  refine ⟨cs,t,fz,by rw [<- g1];exact h1,fun i y hy => ?_⟩
  obtain ⟨z,hz,hzz⟩:=h6 i y (hce i y hy)
  simp only [g2,Sy] at hz
  rw [hz]
  simp only [SV] at f3
  rw [kF hzz (f3 y (S7 hy))]
 refine (ht _ w cargs (Cj P w m tabs hn hT) ?_).mono fun e w' => ?_
 ·cases hvl.uL;exact .nil _
 rintro ⟨v1,v',h1,ρ',rfl,rfl,st,hvr⟩
 have hsame:∀ c,c < w.heap.size->w'.heap[c]? = w.heap[c]?:=fun c hc=>st.frame c hc (by
  rintro ⟨b,o,pl,hb,hro,_⟩
  obtain ⟨c',hc',_⟩:=Ja hb
  have h1:=(hfl _ hc').1
  have h2:m<=b:=hro
  omega)
 exact ⟨v1,v',h,ρ,rfl,⟨rfl,rfl⟩,⟨xn.le_refl _,hr.grow hsame,rfl,st.os,st.tape,st.output,st.size,fun c hc _=>hsame c hc,fun c _ hm=>hm⟩,Dt hvr hv ρ⟩
end
noncomputable section
variable {P:Program}
def Gj (n:Nat):Value->Value
 | .bool b => .bool b
 | .int k i => .int k i
 | .float k i => .float k i
 | .string s => .string s
 | .pointer none => .pointer none
 | .pointer (some ⟨b,off,none⟩)=>cond (Nat.blt b n) (.pointer (some ⟨b,off,none⟩)) bot
 | .slice none 0 0 => .slice none 0 0
 | .slice (some _) 0 0 => .slice (some ⟨0,0,none⟩) 0 0
 | .slice (some ⟨b,off,none⟩) l c=>cond (Nat.blt b n && Nat.ble l c) (.slice (some ⟨b,off,none⟩) l 0) bot
 | .nilFunc => .nilFunc
 | .nilIface => .nilIface
 | .map none => .map none
 | _=>bot
def Ct (f:Nat->Option vi):Nat->Tr vi
 | 0 => .e
 | n + 1=>(Ct f n).set n (f n)
theorem tE (f:Nat->Option vi) (n k:Nat):(Ct f n).get k=if k < n then f k else none:=by
 induction n with
 | zero=>simp [Ct]
 | succ n ih=>
   rw [Ct,Tr.yD,ih]
   by_cases h:k=n
   ·subst h;rw [Sn rfl,Sn (by omega)]
   ·rw [Sl h]
    by_cases h2:k < n
    ·rw [Sn h2,Sn (by omega)]
    ·rw [Sl h2,Sl (by omega)]
def Kh (P:Program) (w:World):xn:=⟨max w.heap.size P.globals.size + 1,fun b=>match w.heap[b]? with
 | some (.cells cs t _)=>some ⟨b,0,cs.size,P.cellsOf t⟩
 | _=>some ⟨b,0,0,1⟩⟩
theorem aL (P:Program) (w:World) (b:Nat):∃ pl,(Kh P w).m b=some pl/\pl.c=b/\pl.base=0:=by
 unfold Kh
 simp only
 split
 ·exact ⟨_,rfl,rfl,rfl⟩
 ·exact ⟨_,rfl,rfl,rfl⟩
theorem Gk (P:Program) (w:World) {v:Value} (h:wZ v=true):zI (Kh P w) (Gj w.heap.size v) v:=by
 have un:(∀ b,v ≠ .bool b)->zI (Kh P w) bot v:=fun hb => .pZ (by
  cases v with
  | bool b=>exact absurd rfl (hb b)
  | agg _=>cases h
  | tuple _=>cases h
  | _=>rfl)
 have lt:∀ {b:Nat},Nat.blt b w.heap.size=true->b < (Kh P w).next:=fun {b} hb=>by
  have h1:b < w.heap.size:=by simpa [S6] using hb
  show b < max w.heap.size P.globals.size + 1
  omega
 unfold Gj
 split
 ·exact .bool _
 ·exact .int _ _
 ·exact .float _ _
 ·exact .string _
 ·exact .ptrNil
 ·rename_i b off
  cases hb:Nat.blt b w.heap.size with
  | true=>
    obtain ⟨pl,hm,hc,h0⟩:=aL P w b
    have:=zI.ptr (ρ:=Kh P w) (off:=off) (lt hb) hm
    rw [hc,h0,Sy] at this
    exact this
  | false=>exact un (fun b h=>by cases h)
 ·exact .sliceNil _
 ·exact .sliceOut (show 0 < max w.heap.size P.globals.size + 1 by omega) (by decide)
 ·rename_i b off l c hne
  cases hb:Nat.blt b w.heap.size && Nat.ble l c with
  | true=>
    obtain ⟨pl,hm,hc,h0⟩:=aL P w b
    simp only [Sm] at hb
    have:=zI.slice (ρ:=Kh P w) (off:=off) (c:=0) (lt hb.1) hm (SH hb.2) (fun h=>absurd rfl h)
    rw [hc,h0,Sy] at this
    exact this
  | false=>exact un (fun b h=>by cases h)
 ·exact .nilFunc
 ·exact .nilIface
 ·exact .mapNil
 ·rename_i h1 h2 h3 h4 h5 h6 h7 h8 h9 h10 h11 h12
  exact un (fun b h=>h1 b h)
theorem oD (P:Program) (w:World):∀ v:Value,∃ x,zI (Kh P w) x v
 | .agg a=>by
   have h:∀ i:Fin a.size,∃ x,zI (Kh P w) x a[i]:=fun i=>oD P w a[i]
   obtain ⟨f,hf⟩:=Classical.axiomOfChoice h
   refine ⟨.agg (Array.ofFn f),.agg (by simp) (fun i x y hx hy => ?_)⟩
   have hi:i < a.size:=by
    rcases SC i a.size with q | q
    ·exact q
    ·rw [SN q] at hy;cases hy
   rw [SO hi] at hy
   simp only [Se] at hy
   subst hy
   rw [SO (by simpa using hi)] at hx
   simp only [Se,Array.getElem_ofFn] at hx
   subst hx
   exact hf ⟨i,hi⟩
 | .tuple a=>by
   have h:∀ i:Fin a.size,∃ x,zI (Kh P w) x a[i]:=fun i=>oD P w a[i]
   obtain ⟨f,hf⟩:=Classical.axiomOfChoice h
   refine ⟨.tuple (Array.ofFn f),.tuple (by simp) (fun i x y hx hy => ?_)⟩
   have hi:i < a.size:=by
    rcases SC i a.size with q | q
    ·exact q
    ·rw [SN q] at hy;cases hy
   rw [SO hi] at hy
   simp only [Se] at hy
   subst hy
   rw [SO (by simpa using hi)] at hx
   simp only [Se,Array.getElem_ofFn] at hx
   subst hx
   exact hf ⟨i,hi⟩
 | .bool b=>⟨_,.bool b⟩
 | .int _ _ | .float _ _ | .complex _ _ _ | .string _ | .pointer _ | .slice _ _ _ | .map _ | .nilFunc | .func _ _ _ | .nilIface | .iface _ _ | .chan _=>⟨bot,.pZ rfl⟩
 termination_by v=>SizeOf.sizeOf v
 decreasing_by
  all_goals
   have:=Array.sizeOf_lt_of_mem (Array.getElem_mem i.2)
   simp only [Value.agg.sizeOf_spec,Value.tuple.sizeOf_spec]
   simp only [Fin.getElem_fin] at this ⊢
   omega
def VB (P:Program) (w:World) (v:Value):Value:=if wZ v=true then Gj w.heap.size v else Classical.choose (oD P w v)
theorem JM (P:Program) (w:World) (v:Value):zI (Kh P w) (VB P w v) v:=by
 unfold VB
 split
 ·rename_i h;exact Gk P w h
 ·exact Classical.choose_spec (oD P w v)
theorem QZ {w:World} {v:Value} (h:wZ v=true):VB P w v=Gj w.heap.size v:=Sn h
def Gh (P:Program) (w:World) (b:Nat):Option vi:=match w.heap[b]? with
 | some (.cells cs t _)=>some (.cells (cs.toList.map (VB P w)) t)
 | _=>none
def absH (P:Program) (w:World):za:=⟨Ct (Gh P w) w.heap.size,max w.heap.size P.globals.size + 1,max w.heap.size P.globals.size + 1⟩
theorem ic {w:World} {b:Nat} {o:vi} (h:(absH P w).get b=some o):b < w.heap.size /\ ∃ cs t fz,w.heap[b]? = some (.cells cs t fz)/\o = .cells (cs.toList.map (VB P w)) t:=by
 have h2:(Ct (Gh P w) w.heap.size).get b=some o:=h
 rw [tE] at h2
 split at h2
 case isFalse=>cases h2
 rename_i hb
 refine ⟨hb,?_⟩
 unfold Gh at h2
 split at h2
 ·rename_i cs t fz hw
  simp only [Se] at h2
  exact ⟨cs,t,fz,hw,h2.symm⟩
 ·cases h2
theorem Gg {w:World} {b:Nat} {cs:Array Value} {t:TypeId} {fz:Nat × Nat} (h:w.heap[b]? = some (.cells cs t fz)):(absH P w).get b=some (.cells (cs.toList.map (VB P w)) t):=by
 have hb:b < w.heap.size:=Yy h
 show (Ct (Gh P w) w.heap.size).get b=_
 rw [tE,Sn hb]
 unfold Gh
 rw [h]
theorem Ab (P:Program) (w:World):Rel P (Kh P w) (absH P w) w:=by
 refine ⟨rfl,Sp _,fun b o h => ?_,fun b o h => ?_,fun b1 b2 o1 o2 p1 p2 _ _ h1 h2 e => ?_,Nat.le_succ_of_le (Nat.le_max_right _ _),fun b pl _ h => ?_⟩
 ·have:=(ic h).1
  show b < max w.heap.size P.globals.size + 1
  omega
 ·obtain ⟨hb,cs,t,fz,hw,rfl⟩:=ic h
  refine ⟨⟨b,0,cs.size,P.cellsOf t⟩,by simp only [Kh,hw],?_⟩
  refine ⟨cs,fz,hw,rfl,⟨rfl,Nat.zero_mod _⟩,by simp,fun hd => ?_,fun i x hx => ?_⟩
  ·have hd:max w.heap.size P.globals.size + 1<=b:=To hd
   omega
  ·simp only [SI,Sw] at hx
   obtain ⟨y,hy,rfl⟩:=hx
   exact ⟨y,by simpa using hy,JM P w y⟩
 ·obtain ⟨q1,a1,b1,c1⟩:=aL P w b1
  obtain ⟨q2,a2,b2,c2⟩:=aL P w b2
  rw [h1] at a1;rw [h2] at a2
  cases a1;cases a2
  omega
 ·obtain ⟨q1,a1,b1,c1⟩:=aL P w b
  rw [h] at a1
  cases a1
  exact ⟨b1,c1⟩
theorem Calls_of_TCW {f:FuncId} {args vs:List Value} {v:Value} (w:World) (ha:wz (Kh P w) args vs) (hv:cZ v=true) (ht:TC P f args (absH P w) (fun v1 _=>v1=v)) :
  Calls P f vs.toArray w fun e w'=>e = .returned v/\RowKit.Below w.heap.size w w':=by
 refine (ht _ w vs (Ab P w) ha).mono fun e w' => ?_
 rintro ⟨v1,v',h1,ρ',rfl,rfl,st,hvr⟩
 refine ⟨by rw [Ff hv hvr],st.os,st.tape,st.output,st.size,fun k hk=>st.frame k hk ?_⟩
 rintro ⟨b,o,pl,hb,hro,_⟩
 have h1:=(ic hb).1
 have h2:max w.heap.size P.globals.size + 1<=b:=hro
 omega
end
noncomputable section
variable {P:Program}
section
variable {h:za} {t e:TypeId} {cs:List Value} {k:IntKind}
end
section
variable {H:Type} {enc:TypeId × Value->H} {w:World} {held:Bool}
theorem Gd (k:IntKind) (i:Int):VB P w (.int k i) = .int k i:=by rw [QZ rfl];rfl
theorem Eb (b:Bool):VB P w (.bool b) = .bool b:=by rw [QZ rfl];rfl
theorem ss (s:ByteArray):VB P w (.string s) = .string s:=by rw [QZ rfl];rfl
theorem Ge:VB P w (.slice none 0 0) = .slice none 0 0:=by rw [QZ rfl];rfl
theorem Gf (a:Addr):VB P w (.slice (some a) 0 0) = .slice (some ⟨0,0,none⟩) 0 0:=by rw [QZ rfl];rfl
theorem Bq {b off len cap:Nat} (h0:0 < cap) (hl:len<=cap) (hb:b < w.heap.size):VB P w (.slice (some ⟨b,off,none⟩) len cap) = .slice (some ⟨b,off,none⟩) len 0:=by
 rw [QZ rfl]
 have h1:(Nat.blt b w.heap.size && Nat.ble len cap)=true:=by simp [S6,hb,hl]
 obtain ⟨c,rfl⟩:∃ c,cap=c + 1:=⟨cap - 1,by omega⟩
 simp only [Gj,h1,SA]
theorem sW {base:Nat} {a:Addr} {n:Nat} {l:List Value} (h:w.cells? base a n=some l) (h0:0 < n):∃ cs t fz,w.heap[a.block]? = some (.cells cs t fz)/\a.spot=none/\a.off + n<=cs.size/\l=(cs.toList.drop a.off).take n:=by
 obtain ⟨_,hl,hc⟩:=World.cells?_some h
 have hat:∀ i,i < n->∃ cs t fz,w.heap[a.block]? = some (.cells cs t fz)/\(i=0->a.spot=none)/\cs[a.off + i]? = l[i]? /\ a.off + i < cs.size:=by
  intro i hi
  have h1:=hc i (by omega)
  have hb:(a.add i).block=a.block:=by unfold Addr.add;split <;> rfl
  have ho:(a.add i).off=a.off + i:=by unfold Addr.add;split <;> simp_all
  unfold World.cell? at h1
  rw [hb,ho] at h1
  have hli:∃ v,l[i]? = some v:=⟨l[i],Sk (by omega)⟩
  obtain ⟨v,hv⟩:=hli
  split at h1
  ·rename_i cs t fz hw
   refine ⟨cs,t,fz,hw,fun e => ?_,?_,?_⟩
   ·subst e
    have:a.add 0=a:=by unfold Addr.add;simp
    rw [this] at h1
    cases hs:a.spot with
    | none=>rfl
    | some x=>rw [hs] at h1;simp at h1;rw [h1] at hv;cases hv
   ·split at h1
    ·rw [hv] at h1;cases h1
    ·exact h1
   ·split at h1
    ·rw [hv] at h1;cases h1
    ·rw [hv] at h1
     rcases SC (a.off + i) cs.size with q | q
     ·exact q
     ·rw [SN q] at h1;cases h1
  ·rw [hv] at h1;cases h1
 obtain ⟨cs,t,fz,hw,hs,_⟩:=hat 0 h0
 refine ⟨cs,t,fz,hw,hs rfl,?_,?_⟩
 ·obtain ⟨cs',t',fz',hw',_,_,hlt⟩:=hat (n - 1) (by omega)
  rw [hw] at hw'
  cases hw'
  omega
 ·apply TK
  intro i
  by_cases hi:i < n
  ·obtain ⟨cs',t',fz',hw',_,he,_⟩:=hat i hi
   rw [hw] at hw'
   cases hw'
   rw [<- he,Td hi,S5]
   simp
  ·rw [Sr (by omega),Sr (by simp;omega)]
end
end
noncomputable section
variable {P:Program}
def oC (P:Program) (w:World):Value->Value
 | .agg a => .agg (a.map (VB P w))
 | v=>VB P w v
theorem Gc (P:Program) (w:World) (v:Value):zI (Kh P w) (oC P w v) v:=by
 unfold oC
 split
 ·rename_i a
  refine .agg (by simp) (fun i x y hx hy => ?_)
  simp only [Array.getElem?_map,hy,TG,Se] at hx
  subst hx
  exact JM P w y
 ·exact JM P w _
def Vs:Value->Bool
 | .agg _=>false
 | _=>true
theorem dy {w:World} {v:Value} (h:Vs v=true):Vs (VB P w v)=true:=by
 have:=JM P w v
 cases v with
 | agg=>cases h
 | _=>
   generalize VB P w _=x at this
   cases this <;> rfl
theorem Wc {v:Value} (h:Vs v=true):v.cells.toList = [v]:=by
 cases v <;> first | rfl | cases h
theorem Bp (P:Program) (w:World) (v:Value):(oC P w v).cells.toList=v.cells.toList.map (VB P w):=by
 cases hv:Vs v with
 | false=>cases v <;> first | (simp [oC,Value.cells];done) | cases hv
 | true=>
   have e:oC P w v=VB P w v:=by cases v <;> first | rfl | cases hv
   rw [e,Wc hv,Wc (dy hv)]
   rfl
theorem sr {w:World} {v:Value} (h:Vs v=true):Vs (oC P w v)=true:=by
 have e:oC P w v=VB P w v:=by cases v <;> first | rfl | cases h
 rw [e]
 exact dy h
def isRow (P:Program) (t:TypeId):Bool:=match P.underlying t with
 | some (.struct _) | some (.array _ _)=>true
 | _=>false
theorem agg_of {a:Value} {l:List Value} (h:a.cells.toList=l) (hl:l.length ≠ 1):a = .agg l.toArray:=by
 cases ha:Vs a with
 | true=>rw [Wc ha] at h;subst h;exact absurd rfl hl
 | false=>
   cases a with
   | agg c=>subst h;rfl
   | _=>cases ha
theorem pM {w:World} {r:Reach} {base:Nat} {t:TypeId} {v:Value} (h:Value.okWide P w r base t v) (hr:isRow P t=false):Vs v=true:=by
 cases v with
 | agg c=>
   exfalso
   unfold isRow at hr
   unfold Value.okWide at h
   split at hr
   ·cases hr
   ·cases hr
   ·rename_i n1 n2
    split at h
    ·rename_i fs hu;exact n1 _ hu
    ·rename_i m e hu;exact n2 _ _ hu
    ·unfold Cell.okWide at h
     split at h <;> first | (rename_i hh;cases hh;done) | skip
     all_goals first
      | (rename_i h2 h3;cases h3;done)
      | skip
     unfold Cell.ok at h
     split at h <;> first | exact h | (rename_i h2 h3;cases h3)
 | _=>rfl
section
variable {H:Type} {enc:TypeId × Value->H} {w:World} {held:Bool}
def kidsOk (P:Program) (l:List TypeId):Bool:=l.all fun t=>match P.underlying t with
 | some (.pointer e)=>l.contains e
 | some (.slice e)=>l.contains e && Nat.blt 0 (P.cellsOf e)
 | some (.array _ _)=>false
 | some (.map _ _)=>false
 | some (.struct fs)=>(fs.toList.all fun f=>l.contains f.type) && Nat.beq (P.cellsOf t) ((fs.toList.map fun f=>P.cellsOf f.type).sum) && (List.range fs.size).all fun j=>match fs.toList[j]? with
   | some f=>Nat.beq f.offset ((fs.toList.take j).map fun f=>P.cellsOf f.type).sum
   | none=>true
 | _=>true
theorem I3 {l:List TypeId} (h:kidsOk P l=true):Kids P (· ∈ l) /\ ∀ {t e:TypeId},t ∈ l->P.underlying t=some (.slice e)->0 < P.cellsOf e:=by
 unfold kidsOk at h
 rw [SV] at h
 refine ⟨⟨fun ht hu => ?_,fun ht hu => ?_,fun ht hu => ?_,fun ht hu => ?_,fun ht hu => ?_⟩,fun ht hu => ?_⟩
 ·have:=h _ ht;rw [hu] at this;simpa using this
 ·have:=h _ ht;rw [hu] at this;simp only [Sm] at this;simpa using this.1
 ·have:=h _ ht;rw [hu] at this;cases this
 ·rename_i t fs
  have:=h _ ht
  rw [hu] at this
  simp only [Sm,SV] at this
  obtain ⟨⟨h1,h2⟩,h3⟩:=this
  refine ⟨fun f hf=>by simpa using h1 f hf,Sv h2,fun j f hj => ?_⟩
  have hlt:j < fs.size:=by
   rcases SC j fs.toList.length with q | q
   ·simpa using q
   ·rw [Sr q] at hj;cases hj
  have:=h3 j (by simpa using hlt)
  rw [hj] at this
  exact Sv this
 ·have:=h _ ht;rw [hu] at this;cases this
 ·have:=h _ ht;rw [hu] at this;simp only [Sm] at this;simpa [S6] using this.2
theorem Cn {w w':World} (hb:RowKit.Below w.heap.size w w') {p:MemPlace} (hp:p.block < w.heap.size):w.sameAt w' p:=by
 cases p with
 | cell b off=>
   have hk:=hb.block b hp
   show w'.cell? _=w.cell? _
   unfold World.cell?
   simp only [hk]
 | map b=>exact hb.block b hp
theorem args_stay {l:List TypeId} (hk:kidsOk P l=true) {w':World} (hb:RowKit.Below w.heap.size w w') {sp:Nat->Bool}:∀ (ts:List TypeId) (vs:List Value) (ds:List (DataW H)) (p:List MemPlace),DataW.TrodAll enc P w 0 (fun _=>true) true ts vs ds p ->
  (∀ t,t ∈ ts->t ∈ l)->(∀ x,x ∈ p->x.block < w.heap.size)->(∀ x,x ∈ p->sp x.block=true)->DataW.TrodAll enc P w' 0 sp true ts vs ds p
 | [],[],[],p,h,ht,hl,hs=>h
 | t :: ts,v :: vs,d :: ds,p,h,ht,hl,hs=>by
   obtain ⟨p1,q1,⟨n,h1⟩,h2,rfl⟩:=h
   obtain ⟨K,hsz⟩:=I3 hk
   refine ⟨p1,q1,⟨n,?_⟩,args_stay hk hb ts vs ds q1 h2 (fun t h=>ht t (by simp [h])) (fun x hx=>hl x (by simp [hx])) (fun x hx=>hs x (by simp [hx])),rfl⟩
   exact DataW.trod_stays K hsz (fun e=>by cases e) (ht t (by simp)) h1 (fun x hx=>Cn hb (hl x (by simp [hx]))) (fun x hx=>hs x (by simp [hx]))
 | [],_ :: _,_,p,h,_,_,_=>by cases h
 | [],[],_ :: _,p,h,_,_,_=>by cases h
 | _ :: _,[],_,p,h,_,_,_=>by cases h
 | _ :: _,_ :: _,[],p,h,_,_,_=>by cases h
end
end
noncomputable section
variable {P:Program}
def RW (P:Program) (h:za):Nat->TypeId->List Value->Prop
 | 0,_,_=>False
 | n + 1,t,cs=>match P.underlying t with
   | some .bool => ∃ b,cs = [.bool b]
   | some (.int k) => ∃ i,cs = [.int k i]/\(Lit.int k i).wf=true
   | some .string => ∃ s:ByteArray,cs = [.string s]/\s.size<=maxLen
   | some (.slice e)=>0 < P.cellsOf e->cs = [.slice none 0 0] \/ ∃ b off len,cs = [.slice (some ⟨b,off,none⟩) len 0]/\len * P.bytesOf e<=reachBytes/\(0 < len->∃ c t',h.get b=some (.cells c t') /\
     ∀ i,i < len->off + i * P.cellsOf e + P.cellsOf e<=c.length/\RW P h n e ((c.drop (off + i * P.cellsOf e)).take (P.cellsOf e)))
   | some (.struct fs)=>cs.length=P.cellsOf t /\ ∀ f,f ∈ fs->RW P h n f.type ((cs.drop f.offset).take (P.cellsOf f.type))
   | _=>True
def Jv (P:Program) (h:za) (t:TypeId) (cs:List Value):Prop := ∃ n,RW P h n t cs
section
variable {h:za} {t e:TypeId} {cs:List Value} {k:IntKind}
theorem rw_int (hu:P.underlying t=some (.int k)) (r:Jv P h t cs):∃ i,cs = [.int k i]/\(Lit.int k i).wf=true:=by
 obtain ⟨n,r⟩:=r
 cases n with
 | zero=>exact r.elim
 | succ n=>simpa only [RW,hu] using r
theorem Fc (hu:P.underlying t=some .string) (r:Jv P h t cs):∃ s:ByteArray,cs = [.string s]/\s.size<=maxLen:=by
 obtain ⟨n,r⟩:=r
 cases n with
 | zero=>exact r.elim
 | succ n=>simpa only [RW,hu] using r
theorem iX (hu:P.underlying t=some (.slice e)) {sz bz:Nat} (hs:P.cellsOf e=sz) (hb:P.bytesOf e=bz) (h0:0 < sz) (r:Jv P h t cs):cs = [.slice none 0 0] \/ ∃ b off len,cs = [.slice (some ⟨b,off,none⟩) len 0]/\len * bz<=reachBytes /\
  (0 < len->∃ c t',h.get b=some (.cells c t') /\ ∀ i,i < len->off + i * sz + sz<=c.length/\Jv P h e ((c.drop (off + i * sz)).take sz)):=by
 subst hs hb
 obtain ⟨n,r⟩:=r
 cases n with
 | zero=>exact r.elim
 | succ n=>
   simp only [RW,hu] at r
   rcases r h0 with r | ⟨b,off,len,e1,e2,e3⟩
   ·exact .inl r
   ·refine .inr ⟨b,off,len,e1,e2,fun hl => ?_⟩
    obtain ⟨c,t',g,hc⟩:=e3 hl
    exact ⟨c,t',g,fun i hi=>⟨(hc i hi).1,n,(hc i hi).2⟩⟩
theorem cY {fs:Array Field} (hu:P.underlying t=some (.struct fs)) (r:Jv P h t cs):cs.length=P.cellsOf t /\ ∀ f,f ∈ fs->Jv P h f.type ((cs.drop f.offset).take (P.cellsOf f.type)):=by
 obtain ⟨n,r⟩:=r
 cases n with
 | zero=>exact r.elim
 | succ n=>
   simp only [RW,hu] at r
   exact ⟨r.1,fun f hf=>⟨n,r.2 f hf⟩⟩
end
theorem Qz {H:Type} {e:TypeId}:∀ {l:List (DataW H)} {i:Nat} {d:DataW H},l[i]? = some d->∀ n ∈ d.weights P e,n ∈ DataW.weightsAll P e l
 | d0 :: l,0,d,hd,n,hn=>by
   simp only [Si,Se] at hd
   subst hd
   simp only [DataW.weightsAll,Ta]
   exact Or.inl hn
 | d0 :: l,i + 1,d,hd,n,hn=>by
   simp only [So] at hd
   simp only [DataW.weightsAll,Ta]
   exact Or.inr (Qz hd n hn)
 | [],_,_,hd,_,_=>by simp at hd
section
variable {H:Type} {enc:TypeId × Value->H} {w:World} {held:Bool}
theorem Jo {sp:Nat->Bool} (hsp:∀ b,sp b=true):∀ (n:Nat) (t:TypeId) (cs:List Value) (x:DataW H × List MemPlace),DataW.trod enc P w 0 sp held n t cs=some x->(∀ m ∈ x.1.weights P t,m<=reachBytes)->RW P (absH P w) n t (cs.map (VB P w))
 | 0,t,cs,x,h,_=>by simp [DataW.trod] at h
 | n + 1,t,cs,x,h,hwt=>by
   unfold RW
   split
   ·rename_i hu
    obtain ⟨b,rfl,_⟩:=DataW.trod_bool hu h
    exact ⟨b,by simp only [TQ,List.map_nil,Eb]⟩
   ·rename_i k hu
    obtain ⟨i,rfl,_,hw⟩:=DataW.trod_int hu h
    exact ⟨i,by simp only [TQ,List.map_nil,Gd],hw⟩
   ·rename_i hu
    obtain ⟨s,rfl,_,hw⟩:=DataW.trod_string hu h
    exact ⟨s,by simp only [TQ,List.map_nil,ss],hw⟩
   ·rename_i e hu
    intro hz
    rcases DataW.trod_slice hu h with ⟨rfl,_⟩ | ⟨a,len,cap,elems,rest,m,hm,rfl,hx,_,hl,hmx,hel,hat,hrest,_⟩
    ·exact .inl (by simp only [TQ,List.map_nil,Ge])
    ·cases hm
     right
     have hr:=hrest (hsp _)
     have hwt2:∀ m ∈ (elems.length + rest.length) * P.bytesOf e :: (DataW.weightsAll P e (elems.map (·.1)) ++ DataW.weightsAll P e (rest.map (·.1))),m<=reachBytes:=by
      intro m hm'
      apply hwt
      rw [hx]
      simp only [DataW.weights,hu,SX]
      exact hm'
     have all:∀ i,i < cap->∃ l y,w.cells? 0 (a.add (i * P.cellsOf e)) (P.cellsOf e)=some l/\DataW.trod enc P w 0 sp held n e l=some y:=by
      intro i hi
      by_cases h1:i < len
      ·have:=hat i h1
       rw [Sk (by omega)] at this
       simp only [T2] at this
       obtain ⟨l,a1,a2⟩:=this
       exact ⟨l,_,a1,a2⟩
      ·have:=hr.2 (i - len) (by omega)
       rw [Sk (by omega),show len + (i - len)=i by omega] at this
       simp only [T2] at this
       obtain ⟨l,a1,a2⟩:=this
       exact ⟨l,_,a1,a2⟩
     by_cases hcap:cap=0
     ·have hlen:len=0:=by omega
      subst hcap hlen
      exact ⟨0,0,0,by simp only [TQ,List.map_nil,Gf],by rw [aax];exact Th _,fun q=>absurd q (by decide)⟩
     ·· obtain ⟨l0,y0,c0,_⟩:=all 0 (by omega)
        have ha0:a.add (0 * P.cellsOf e)=a:=by rw [aax];unfold Addr.add;simp
        rw [ha0] at c0
        obtain ⟨cc,t',fz,hw,hs,_,_⟩:=sW c0 hz
        have hb:a.block < w.heap.size:=Yy hw
        obtain ⟨ab,ao,as⟩:=a
        simp only at hs hb hw
        subst hs
        refine ⟨ab,ao,len,by simp only [TQ,List.map_nil,Bq (Nat.pos_of_ne_zero hcap) hl hb],S4 (TM _ (by omega)) (hwt2 _ List.mem_cons_self),fun _=>⟨_,t',Gg hw,fun i hi => ?_⟩⟩
        have hati:=hat i hi
        rw [Sk (by omega)] at hati
        simp only [T2] at hati
        obtain ⟨l,c1,c2⟩:=hati
        have hmy:∀ m ∈ (elems[i]'(by omega)).1.weights P e,m<=reachBytes:=fun m hm'=>hwt2 m (List.mem_cons_of_mem _ (List.mem_append_left _ (Qz (i:=i) (by rw [SI,Sk (by omega)];rfl) m hm')))
        obtain ⟨cc',t2,fz2,hw2,hs2,hle,rfl⟩:=sW c1 hz
        have hblk:(Addr.add ⟨ab,ao,none⟩ (i * P.cellsOf e)).block=ab:=by unfold Addr.add;split <;> rfl
        have hoff:(Addr.add ⟨ab,ao,none⟩ (i * P.cellsOf e)).off=ao + i * P.cellsOf e:=by unfold Addr.add;split <;> simp_all
        rw [hblk,hw] at hw2
        cases hw2
        rw [hoff] at hle c2
        refine ⟨by simpa using hle,?_⟩
        have:=Jo hsp n e _ _ c2 hmy
        rw [List.map_take,List.map_drop] at this
        exact this
   ·rename_i fs hu
    obtain ⟨xs,m,hm,hx,hl,hlen,hf⟩:=DataW.trod_struct hu h
    cases hm
    refine ⟨by simpa using hl,fun f hfm => ?_⟩
    obtain ⟨i,hi,e⟩:=Array.getElem_of_mem hfm
    have:=hf i f (by rw [SO hi,e])
    rw [Sk (by omega)] at this
    have hmy:∀ m ∈ (xs[i]'(by omega)).1.weights P f.type,m<=reachBytes:=fun m hm'=>hwt m (by
     rw [hx]
     simp only [DataW.weights,hu]
     exact DataW.weights_mem_each (j:=i) (by rw [SI,Array.getElem?_toList,SO hi,e];rfl) (by rw [SI,Sk (by omega)];rfl) m hm')
    have:=Jo hsp n f.type _ _ this hmy
    rw [List.map_take,List.map_drop] at this
    exact this
   ·trivial
theorem ew {ts:List TypeId} {t:TypeId} {ds:List (DataW H)} {d:DataW H} (h:∀ m ∈ DataW.weightsEach P (t :: ts) (d :: ds),m<=reachBytes):(∀ m ∈ d.weights P t,m<=reachBytes) /\ ∀ m ∈ DataW.weightsEach P ts ds,m<=reachBytes:=by
 simp only [DataW.weightsEach,Ta] at h
 exact ⟨fun m hm=>h m (.inl hm),fun m hm=>h m (.inr hm)⟩
def RWs (P:Program) (h:za):List TypeId->List Value->Prop
 | [],[]=>True
 | t :: ts,a :: as'=>(Jv P h t a.cells.toList/\(isRow P t=false->Vs a=true))/\RWs P h ts as'
 | _,_=>False
theorem rw_one {h:za} {t:TypeId} {a:Value} (hr:isRow P t=false) (r:Jv P h t a.cells.toList/\(isRow P t=false->Vs a=true)):Jv P h t [a]:=by
 have:=r.1
 rwa [Wc (r.2 hr)] at this
theorem args_rw {sp:Nat->Bool} (hsp:∀ b,sp b=true) {r:Reach} {base:Nat}:∀ (ts:List TypeId) (vs:List Value) (ds:List (DataW H)) (p:List MemPlace),DataW.TrodAll enc P w 0 sp held ts vs ds p ->
  (∀ (j:Nat) t v,ts[j]? = some t->vs[j]? = some v->Value.okWide P w r base t v)->(∀ m ∈ DataW.weightsEach P ts ds,m<=reachBytes)->wz (Kh P w) (vs.map (oC P w)) vs/\RWs P (absH P w) ts (vs.map (oC P w))
 | [],[],[],p,h,hv,_=>⟨.nil _,trivial⟩
 | t :: ts,v :: vs,d :: ds,p,h,hv,hm=>by
   obtain ⟨p1,q1,⟨n,h1⟩,h2,_⟩:=h
   obtain ⟨m1,m2⟩:=ew hm
   obtain ⟨a1,a2⟩:=args_rw hsp ts vs ds q1 h2 (fun j t v hj hv'=>hv (j + 1) t v (by simpa using hj) (by simpa using hv')) m2
   refine ⟨.cons (Gc P w v) a1,⟨⟨n,?_⟩,fun hr=>sr (pM (hv 0 t v rfl rfl) hr)⟩,a2⟩
   rw [Bp]
   exact Jo hsp n t _ _ h1 m1
 | [],_ :: _,_,p,h,hv,_=>by cases h
 | [],[],_ :: _,p,h,hv,_=>by cases h
 | _ :: _,[],_,p,h,hv,_=>by cases h
 | _ :: _,_ :: _,[],p,h,hv,_=>by cases h
end
end
noncomputable section
variable {P:Program}
def ym:Value->Bool
 | .complex _ _ _=>true
 | _=>false
structure Le (r s:Env):Prop where
 size:r.size=s.size
 get:∀ i,ym (r.get i)=true\/r.get i=s.get i
theorem Le.refl (s:Env):Le s s:=⟨rfl,fun _ => .inr rfl⟩
theorem Le.trans {a b c:Env} (h:Le a b) (k:Le b c):Le a c:=⟨h.size.trans k.size,fun i=>by
 rcases h.get i with e | e
 ·exact .inl e
 ·rcases k.get i with f | f
  ·exact .inl (by rw [e];exact f)
  ·exact .inr (e.trans f)⟩
theorem Le.put {r s r1:Env} {d:Option Nat} {v u:Value} (h:Le r s) (hp:r.put d v=some r1) (hv:ym v=true\/v=u):∃ s1,s.put d u=some s1/\Le r1 s1:=by
 cases d with
 | none=>simp only [Env.put,Se] at hp;subst hp;exact ⟨s,rfl,h⟩
 | some d=>
   simp only [Env.put] at hp ⊢
   obtain ⟨hc,hp⟩:=zv hp
   rw [h.size] at hc
   rw [hc]
   simp only [Se] at hp
   subst hp
   refine ⟨_,rfl,⟨h.size,fun i => ?_⟩⟩
   rw [Env.yD,Env.yD]
   by_cases e:i=d
   ·rw [Sn e,Sn e];exact hv
   ·rw [Sl e,Sl e];exact h.get i
def ev (s:Env):Operand->Value
 | .tmp t=>s.get t
 | .const v=>cond (flat v) v bot
 | .global g => .pointer (some ⟨g,0,some 0⟩)
 | .func f => .func (.func f) #[] #[]
theorem R6 {r s:Env} (h:Le r s) (x:Operand):ym (ev r x)=true\/jb s x=some (ev r x):=by
 cases x with
 | tmp t=>rcases h.get t with e | e
          ·exact .inl e
          ·exact .inr (by simp only [jb,ev,e])
 | const v=>cases hf:flat v with
   | true=>exact .inr (by simp only [jb,ev,hf,SA])
   | false=>exact .inl (by simp only [ev,hf,SK];rfl)
 | global g=>exact .inr rfl
 | func f=>exact .inr rfl
theorem Z9 {r s:Env} (h:Le r s) {x:Operand} (hb:ym (ev r x)=false):jb s x=some (ev r x):=by
 rcases R6 h x with e | e
 ·rw [e] at hb;cases hb
 ·exact e
def aR (s:Env):List Operand->List Value
 | []=>[]
 | x :: l=>ev s x :: aR s l
def yN:List Value->Bool
 | []=>true
 | v :: l=>cond (ym v) false (yN l)
theorem US {r s:Env} (h:Le r s):∀ {xs:List Operand},yN (aR r xs)=true->VC s xs=some (aR r xs)
 | [],_=>rfl
 | x :: xs,hb=>by
   simp only [aR,yN] at hb
   cases hx:ym (ev r x) with
   | true=>rw [hx] at hb;cases hb
   | false=>
     rw [hx] at hb
     simp only [VC,aR,Z9 h hx,US h hb]
def IK (s:Env):List (Nat × Operand)->List (Nat × Value)
 | []=>[]
 | (i,x) :: l=>(i,ev s x) :: IK s l
def HY:List (Nat × Value)->List Value
 | []=>[]
 | (_,v) :: l=>v :: HY l
theorem Nc {r s:Env} (h:Le r s):∀ {ps:List (Nat × Operand)},yN (HY (IK r ps))=true->Wv s ps=some (IK r ps)
 | [],_=>rfl
 | (i,x) :: ps,hb=>by
   simp only [IK,HY,yN] at hb
   cases hx:ym (ev r x) with
   | true=>rw [hx] at hb;cases hb
   | false=>
     rw [hx] at hb
     simp only [Wv,IK,Z9 h hx,Nc h hb]
def L3 (s:Env):Option Operand->Option Value
 | none=>none
 | some x=>some (ev s x)
def HB:Option Value->Bool
 | none=>true
 | some v => !ym v
theorem OV {r s:Env} (h:Le r s) {x:Option Operand} (hb:HB (L3 r x)=true):lA s x=some (L3 r x):=by
 cases x with
 | none=>rfl
 | some y=>
   simp only [L3,HB,Sz] at hb
   simp only [lA,L3,Z9 h hb];rfl
def opt {α:Type} (x:Option α) (K:α->Prop):Prop:=match x with
 | some a=>K a
 | none=>False
@[congr] theorem NW {α:Type} {x y:Option α} {K:α->Prop} (h:x=y):opt x K=opt y K:=by rw [h]
theorem zu {α:Type} (a:α) (K:α->Prop):opt (some a) K=K a:=rfl
theorem qt {α:Type} {x:Option α} {K:α->Prop} (h:opt x K):∃ a,x=some a/\K a:=by
 cases x with
 | none=>exact h.elim
 | some a=>exact ⟨a,rfl,h⟩
def xZ (x:Option (Value × za)) (K:Value->za->Prop):Prop:=match x with
 | some (v,h)=>K v h
 | none=>False
@[congr] theorem Nq {x y:Option (Value × za)} {K:Value->za->Prop} (h:x=y):xZ x K=xZ y K:=by rw [h]
theorem y9 (v:Value) (h:za) (K:Value->za->Prop):xZ (some (v,h)) K=K v h:=rfl
theorem ZK {x:Option (Value × za)} {K:Value->za->Prop} (h:xZ x K):∃ v g,x=some (v,g)/\K v g:=by
 cases x with
 | none=>exact h.elim
 | some a=>exact ⟨a.1,a.2,rfl,h⟩
def nw (h:za) (c:List Value) (t:TypeId) (K:Value->za->Prop):Prop:=K (.pointer (some ⟨h.next,0,none⟩)) (h.push (.cells c t))
def nb {α:Type} (l:List Value) (x:Option α):Option α:=cond (yN l) x none
theorem qk {α:Type} {l:List Value} {x:Option α} {a:α} (h:nb l x=some a):yN l=true/\x=some a:=zv h
def pk (c a b:Value):Option Value:=match c with
 | .bool true=>nb [a] (some a)
 | .bool false=>nb [b] (some b)
 | _=>none
def ve:Value->Option Value
 | .pointer (some a)=>some (.pointer (some a))
 | .func (.func f) a c=>some (.func (.func f) a c)
 | _=>none
def JR (P:Program) (op:UnOp) (a:Value):Option Value:=cond (flat a) (fl (z9 P (Op.unary op a))) none
def Oa (P:Program) (t:TypeId) (a:Value):Option Value:=match z9 P (Instr.makeInterface t (.bool true)) with
 | some _=>some (.iface t a)
 | none=>none
def GC (P:Program) (t:TypeId) (x:Value) (lo hi:Option Value) (h:za):Option Value:=match x with
 | .string str=>cond (tW lo && tW hi) (fl (z9 P (Instr.sliceAt t (.string str) lo hi none))) none
 | v=>cH P t v lo hi h
def PZ (P:Program) (t:TypeId) (x:Value) (f:Nat):Option Value:=match x with
 | .agg cs=>(match z9 P (underlying t) with
   | some (.struct fields)=>(match fields[f]? with
     | some fd=>apart P fd.type cs.toList fd.offset
     | none=>none)
   | _=>none)
 | _=>none
def Iq (P:Program) (t:TypeId) (a b:Value):Option Value:=cond (flat a && flat b) (fl (z9 P (Instr.index t a b))) none
def YW (x:Value) (i:Nat):Option Value:=match x with
 | .tuple vs=>nb (vs.toList) vs[i]?
 | _=>none
def du (h:za):Prop:=(∀ b o,h.get b=some o->b < h.next)/\h.ro<=h.next
def DC (P:Program) (f:FuncId) (args:List Value) (h:za) (R:Value->za->Prop):Prop :=
 du h->∃ v h1,R v h1/\AF h h1/\TC P f args h (fun v' h'=>v'=v/\h'=h1)
def Om (P:Program) (g:FuncId) (args:List Value) (h:za) (K:Value->za->Prop):Prop :=
 yN args=true/\((ux P g=true/\DC P g args h K)\/xZ (oM P g args h) K)
def RR (P:Program) (L:Nat) (args:List Value) (h:za) (K:Value->za->Prop):Prop :=
 yN args=true/\(du h->∃ v h1,K v h1/\AF h h1/\TY P L args h (fun v' h'=>v'=v/\h'=h1))
def zO (P:Program) (f:Value) (args:List Value) (h:za) (K:Value->za->Prop):Prop:=match f with
 | .func (.func g) a c=>yN args=true/\Om P g (a.toList ++ args ++ c.toList) h K
 | .func (.yield L) a c=>a = #[]/\c = #[]/\RR P L args h K
 | _=>False
def mv (s:Env) (x:Operand) (h:za) (K:Value->za->Prop):Prop:=match x with
 | .tmp t=>K (s.get t) h
 | .const v=>cond (flat v) (K v h) False
 | .global g=>K (.pointer (some ⟨g,0,some 0⟩)) h
 | .func f=>K (.func (.func f) #[] #[]) h
def HC (P:Program) (s:Env) (o:Oper) (h:za) (K:Value->za->Prop):Prop:=match o.op with
 | .move x | .assign x=>mv s x h K
 | .pick c a b=>opt (pk (ev s c) (ev s a) (ev s b)) fun v=>K v h
 | .box t x=>opt (nb [ev s x] (some (ev s x).cells.toList)) fun c=>nw h c t K
 | .alloc t=>opt (wY P t) fun z=>nw h z.cells.toList t K
 | .build t parts=>opt (nb (HY (IK s parts.toList)) (xo P t (IK s parts.toList))) fun v=>K v h
 | .buildSlice t len parts=>xZ (nb (HY (IK s parts.toList)) (xU P t len (IK s parts.toList) h)) K
 | .load t a=>opt (zd P t (ev s a) h) fun v=>K v h
 | .store t a x=>opt (nb [ev s x] (zl P t (ev s a) (ev s x) h)) fun h'=>K undef h'
 | .nilCheck x=>opt (ve (ev s x)) fun v=>K v h
 | .binOp op t x y _=>opt (nb [ev s x,ev s y] (ze P op t x y (ev s x) (ev s y))) fun v=>K v h
 | .unOp op _ x=>opt (JR P op (ev s x)) fun v=>K v h
 | .convert src dst x=>xZ (nb [ev s x] (u5 P src dst (ev s x) h)) K
 | .makeInterface t x=>opt (nb [ev s x] (Oa P t (ev s x))) fun v=>K v h
 | .makeFunc (.func f) first captured=>opt (nb (aR s first.toList ++ aR s captured.toList) (some (Value.func (.func f) (aR s first.toList).toArray (aR s captured.toList).toArray))) fun v=>K v h
 | .makeSlice t l c=>xZ (W4 P t (ev s l) (ev s c) h) K
 | .slice t x lo hi none=>opt (nb [ev s x] (cond (HB (L3 s lo) && HB (L3 s hi)) (GC P t (ev s x) (L3 s lo) (L3 s hi) h) none)) fun v=>K v h
 | .fieldAddr t x f=>opt (zb P t (ev s x) f) fun v=>K v h
 | .field t x f=>opt (PZ P t (ev s x) f) fun v=>K v h
 | .indexAddr t x i=>opt (zA P t (ev s x) (ev s i)) fun v=>K v h
 | .index t x i=>opt (Iq P t (ev s x) (ev s i)) fun v=>K v h
 | .extract x i=>opt (YW (ev s x) i) fun v=>K v h
 | .call { callee := .builtin b,args,argTypes }=>xZ (nb (aR s args.toList) (zn P b argTypes.toList o.type (aR s args.toList) h)) K
 | .makeMap _ none=>K (vL h).1 (vL h).2
 | .lookup t x k ok=>opt (nb [ev s x,ev s k] (Z2 P t (ev s x) (ev s k) ok h)) fun v=>K v h
 | .mapUpdate t m k x=>opt (nb [ev s m,ev s k,ev s x] (k7 P t (ev s m) (ev s k) (ev s x) h)) fun h'=>K undef h'
 | .range t x=>xZ (nb [ev s x] (cG P t (ev s x) h)) K
 | .next x str=>xZ (nb [ev s x] (ni P (ev s x) str h)) K
 | .entry x=>opt (nb [ev s x] (oJ (ev s x) h)) fun v=>K v h
 | _=>False
theorem WJ {v:Value} (h:yN [v]=true):ym v=false:=by
 simp only [yN] at h;cases hb:ym v with | true=>rw [hb] at h;cases h | false=>rfl
theorem iJ {v w:Value} (h:yN [v,w]=true):ym v=false/\ym w=false:=by
 simp only [yN] at h;cases hb:ym v with | true=>rw [hb] at h;cases h | false=>rw [hb] at h;exact ⟨rfl,WJ h⟩
theorem Cd {u v w:Value} (h:yN [u,v,w]=true):ym u=false/\ym v=false/\ym w=false:=by
 simp only [yN] at h;cases hb:ym u with | true=>rw [hb] at h;cases h | false=>rw [hb] at h;exact ⟨rfl,iJ h⟩
theorem E0 {l m:List Value} (h:yN (l ++ m)=true):yN l=true/\yN m=true:=by
 induction l with
 | nil=>exact ⟨rfl,h⟩
 | cons v l ih=>
   simp only [List.cons_append,yN] at h ⊢
   cases hb:ym v with
   | true=>rw [hb] at h;cases h
   | false=>rw [hb] at h;exact ih h
theorem Xm {h:za} {x:Option Value} {v:Value} (e:x=some v):one h x=some (v,h):=by rw [e];rfl
theorem XO {v:Value} (h:ym v=true):∃ k a b,v = .complex k a b:=by cases v <;> first | exact ⟨_,_,_,rfl⟩ | cases h
theorem tR {r s:Env} (hl:Le r s) {x:Operand} {h:za} {K:Value->za->Prop} (hk:mv r x h K):∃ v u,jb s x=some u/\(ym v=true\/v=u)/\K v h:=by
 cases x with
 | tmp t=>exact ⟨_,_,rfl,hl.get t,hk⟩
 | const v=>
   simp only [mv] at hk
   cases hf:flat v with
   | true=>rw [hf] at hk;exact ⟨v,v,by simp only [jb,hf,SA],.inr rfl,hk⟩
   | false=>rw [hf] at hk;exact hk.elim
 | global g=>exact ⟨_,_,rfl,.inr rfl,hk⟩
 | func f=>exact ⟨_,_,rfl,.inr rfl,hk⟩
theorem j5 {r s:Env} (hl:Le r s) {o:Oper} {h:za} {K:Value->za->Prop} (hk:HC P r o h K) :
  ∃ v u h',Kz P s o h=some (u,h')/\(ym v=true\/v=u)/\K v h':=by
 have strict:∀ (x:Operand) {α:Type} (F:Value->Option α) {a:α},(∀ k p q,F (.complex k p q)=none)->F (ev r x)=some a->jb s x=some (ev r x):=by
  intro x α F a hF e
  refine Z9 hl ?_
  cases hb:ym (ev r x) with
  | false=>rfl
  | true=>obtain ⟨k,p,q,e2⟩:=XO hb;rw [e2,hF] at e;cases e
 unfold HC at hk
 unfold Kz
 split at hk <;> rename_i yU <;> simp only [yU]
 ·obtain ⟨v,u,e,hv,hk⟩:=tR hl hk
  exact ⟨v,u,h,by rw [e];rfl,hv,hk⟩
 ·obtain ⟨v,u,e,hv,hk⟩:=tR hl hk
  exact ⟨v,u,h,by rw [e];rfl,hv,hk⟩
 ·rename_i c a b
  obtain ⟨v,e,hk⟩:=qt hk
  have ec:=strict c (fun x=>pk x (ev r a) (ev r b)) (fun _ _ _=>rfl) e
  rw [ec]
  unfold pk at e
  split at e
  ·rename_i hc
   obtain ⟨n,e⟩:=qk e
   cases e
   rw [hc];simp only [Z9 hl (WJ n)]
   exact ⟨_,_,h,rfl,.inr rfl,hk⟩
  ·rename_i hc
   obtain ⟨n,e⟩:=qk e
   cases e
   rw [hc];simp only [Z9 hl (WJ n)]
   exact ⟨_,_,h,rfl,.inr rfl,hk⟩
  ·cases e
 ·obtain ⟨c,e,hk⟩:=qt hk
  obtain ⟨n,e⟩:=qk e
  cases e
  simp only [Z9 hl (WJ n)]
  exact ⟨_,_,_,rfl,.inr rfl,hk⟩
 ·obtain ⟨z,e,hk⟩:=qt hk
  rw [e]
  exact ⟨_,_,_,rfl,.inr rfl,hk⟩
 ·obtain ⟨v,e,hk⟩:=qt hk
  obtain ⟨n,e⟩:=qk e
  simp only [Nc hl n]
  exact ⟨_,_,_,Xm e,.inr rfl,hk⟩
 ·obtain ⟨v,g,e,hk⟩:=ZK hk
  obtain ⟨n,e⟩:=qk e
  simp only [Nc hl n]
  exact ⟨_,_,_,e,.inr rfl,hk⟩
 ·obtain ⟨v,e,hk⟩:=qt hk
  rw [strict _ (fun x=>zd P _ x h) (fun _ _ _=>rfl) e]
  exact ⟨_,_,_,Xm e,.inr rfl,hk⟩
 ·obtain ⟨v,e,hk⟩:=qt hk
  obtain ⟨n,e⟩:=qk e
  rw [strict _ (fun x=>zl P _ x _ h) (fun _ _ _=>rfl) e]
  simp only [Z9 hl (WJ n),e]
  exact ⟨_,_,_,rfl,.inr rfl,hk⟩
 ·obtain ⟨v,e,hk⟩:=qt hk
  rw [strict _ ve (fun _ _ _=>rfl) e]
  unfold ve at e
  split at e
  ·rename_i hc;cases e;rw [hc];exact ⟨_,_,_,rfl,.inr rfl,hk⟩
  ·rename_i hc;cases e;rw [hc];exact ⟨_,_,_,rfl,.inr rfl,hk⟩
  ·cases e
 ·obtain ⟨v,e,hk⟩:=qt hk
  obtain ⟨n,e⟩:=qk e
  simp only [Z9 hl (iJ n).1,Z9 hl (iJ n).2]
  exact ⟨_,_,_,Xm e,.inr rfl,hk⟩
 ·obtain ⟨v,e,hk⟩:=qt hk
  rw [strict _ (JR P _) (fun _ _ _=>rfl) e]
  obtain ⟨hf,e⟩:=zv e
  simp only [hf,SA]
  exact ⟨_,_,_,Xm e,.inr rfl,hk⟩
 ·obtain ⟨v,g,e,hk⟩:=ZK hk
  obtain ⟨n,e⟩:=qk e
  simp only [Z9 hl (WJ n)]
  exact ⟨_,_,_,e,.inr rfl,hk⟩
 ·obtain ⟨v,e,hk⟩:=qt hk
  obtain ⟨n,e⟩:=qk e
  simp only [Z9 hl (WJ n)]
  unfold Oa at e
  split at e
  ·rename_i hm;cases e;rw [hm];exact ⟨_,_,_,rfl,.inr rfl,hk⟩
  ·cases e
 ·obtain ⟨v,e,hk⟩:=qt hk
  obtain ⟨n,e⟩:=qk e
  cases e
  obtain ⟨n1,n2⟩:=E0 n
  simp only [US hl n1,US hl n2]
  exact ⟨_,_,_,rfl,.inr rfl,hk⟩
 ·rename_i t l c
  obtain ⟨v,g,e,hk⟩:=ZK hk
  have e1:=strict l (fun x=>W4 P t x (ev r c) h) (fun _ _ _=>rfl) e
  have e2:=strict c (fun x=>W4 P t (ev r l) x h) (fun k p q=>by unfold W4;split <;> first | rfl | (rename_i hh _;cases hh)) e
  simp only [e1,e2]
  exact ⟨_,_,_,e,.inr rfl,hk⟩
 ·rename_i t x lo hi
  obtain ⟨v,e,hk⟩:=qt hk
  obtain ⟨n,e⟩:=qk e
  obtain ⟨hb,e⟩:=zv e
  simp only [Sm] at hb
  simp only [Z9 hl (WJ n),OV hl hb.1,OV hl hb.2]
  unfold GC at e
  split at e
  ·rename_i str hs
   rw [hs]
   simp only [Kz.flatSlice,e]
   exact ⟨_,_,_,rfl,.inr rfl,hk⟩
  ·rename_i hs
   split
   ·rename_i a b c str h1 h2 h3
    exact absurd (aaq h1) (fun q=>hs _ q)
   ·rename_i h1 h2 h3
    cases h1;cases h2;cases h3
    exact ⟨_,_,_,Xm e,.inr rfl,hk⟩
   ·rename_i h1 h2
    exact absurd rfl (h2 _ _ _ rfl rfl)
 ·rename_i t x f
  obtain ⟨v,e,hk⟩:=qt hk
  rw [strict x (fun x=>zb P t x f) (fun _ _ _=>rfl) e]
  exact ⟨_,_,_,Xm e,.inr rfl,hk⟩
 ·rename_i t x f
  obtain ⟨v,e,hk⟩:=qt hk
  rw [strict x (fun x=>PZ P t x f) (fun _ _ _=>rfl) e]
  unfold PZ at e
  split at e
  ·rename_i cs hc
   rw [hc]
   split at e
   ·rename_i fields hu
    simp only [hu]
    split at e
    ·rename_i fd hfd;simp only [hfd];exact ⟨_,_,_,Xm e,.inr rfl,hk⟩
    ·cases e
   ·cases e
  ·cases e
 ·rename_i t x i
  obtain ⟨v,e,hk⟩:=qt hk
  have e1:=strict x (fun x=>zA P t x (ev r i)) (fun k p q=>by unfold zA;split <;> (try rfl);split <;> first | rfl | (rename_i hh;cases hh)) e
  have e2:=strict i (fun y=>zA P t (ev r x) y) (fun k p q=>rfl) e
  simp only [e1,e2]
  exact ⟨_,_,_,Xm e,.inr rfl,hk⟩
 ·rename_i t x i
  obtain ⟨v,e,hk⟩:=qt hk
  have e1:=strict x (fun x=>Iq P t x (ev r i)) (fun k p q=>rfl) e
  have e2:=strict i (fun y=>Iq P t (ev r x) y) (fun k p q=>by unfold Iq;cases flat (ev r x) <;> rfl) e
  obtain ⟨hf,e⟩:=zv e
  simp only [e1,e2,hf,SA]
  exact ⟨_,_,_,Xm e,.inr rfl,hk⟩
 ·rename_i x i
  obtain ⟨v,e,hk⟩:=qt hk
  rw [strict x (fun x=>YW x i) (fun _ _ _=>rfl) e]
  unfold YW at e
  split at e
  ·rename_i vs hc
   rw [hc]
   obtain ⟨n,e⟩:=qk e
   exact ⟨_,_,_,Xm e,.inr rfl,hk⟩
  ·cases e
 ·obtain ⟨v,g,e,hk⟩:=ZK hk
  obtain ⟨n,e⟩:=qk e
  simp only [US hl n]
  exact ⟨_,_,_,e,.inr rfl,hk⟩
 ·exact ⟨_,_,_,rfl,.inr rfl,hk⟩
 ·obtain ⟨v,e,hk⟩:=qt hk
  obtain ⟨n,e⟩:=qk e
  simp only [Z9 hl (iJ n).1,Z9 hl (iJ n).2]
  exact ⟨_,_,_,Xm e,.inr rfl,hk⟩
 ·obtain ⟨v,e,hk⟩:=qt hk
  obtain ⟨n,e⟩:=qk e
  simp only [Z9 hl (Cd n).1,Z9 hl (Cd n).2.1,Z9 hl (Cd n).2.2,e]
  exact ⟨_,_,_,rfl,.inr rfl,hk⟩
 ·obtain ⟨v,g,e,hk⟩:=ZK hk
  obtain ⟨n,e⟩:=qk e
  simp only [Z9 hl (WJ n)]
  exact ⟨_,_,_,e,.inr rfl,hk⟩
 ·obtain ⟨v,g,e,hk⟩:=ZK hk
  obtain ⟨n,e⟩:=qk e
  simp only [Z9 hl (WJ n)]
  exact ⟨_,_,_,e,.inr rfl,hk⟩
 ·obtain ⟨v,e,hk⟩:=qt hk
  obtain ⟨n,e⟩:=qk e
  simp only [Z9 hl (WJ n)]
  exact ⟨_,_,_,Xm e,.inr rfl,hk⟩
 ·exact hk.elim
end
noncomputable section
variable {P:Program}
def IB (d:Option Nat):Nat:=match d with
 | some d=>1 <<< d
 | none=>0
def Vh:List Oper->Nat
 | []=>0
 | o :: os=>IB o.dst ||| Vh os
def ZY:Code->Nat
 | .region _ ops _=>Vh ops.toList
 | .seq a b=>ZY a ||| ZY b
 | .cond _ a b=>ZY a ||| ZY b
 | .block _ a=>ZY a
 | .scope a=>ZY a
 | .loop a=>ZY a
 | _=>0
def NC (x:Operand):Nat:=match x with
 | .tmp t=>1 <<< t
 | _=>0
def PA:List Operand->Nat
 | []=>0
 | x :: l=>NC x ||| PA l
def PB (d:Nat):List Oper->Nat
 | []=>0
 | o :: os=>(Nat.xor (PA o.op.operands.toList ||| d) d) ||| PB (d ||| IB o.dst) os
def MX:Code->Nat
 | .region _ ops _=>Vh ops.toList
 | .seq a b=>MX a ||| MX b
 | .cond _ a b=>Nat.land (MX a) (MX b)
 | .scope a=>MX a
 | _=>0
def p6:Code->Nat
 | .region _ ops _=>PB 0 ops.toList
 | .seq a b=>p6 a ||| Nat.xor (p6 b ||| MX a) (MX a)
 | .cond x a b=>NC x ||| p6 a ||| p6 b
 | .block _ a=>p6 a
 | .scope a=>p6 a
 | .loop a=>p6 a
 | .rangeFunc f _ a b=>NC f ||| p6 a ||| p6 b
 | _=>0
def bits (m n:Nat):List Nat:=(List.range n).filter fun t=>m.testBit t
theorem Hs {m n t:Nat}:t ∈ bits m n ↔ t < n/\m.testBit t=true:=by simp [bits]
structure Fr (m:Nat) (s s1:Env):Prop where
 size:s1.size=s.size
 get:∀ t,m.testBit t=false->s1.get t=s.get t
 out:∀ t,s.size<=t->s1.get t=s.get t
theorem Fr.refl (m:Nat) (s:Env):Fr m s s:=⟨rfl,fun _ _=>rfl,fun _ _=>rfl⟩
theorem Fr.trans {m:Nat} {a b c:Env} (h:Fr m a b) (k:Fr m b c):Fr m a c :=
 ⟨k.size.trans h.size,fun t ht=>(k.get t ht).trans (h.get t ht),fun t ht=>(k.out t (by rw [h.size];exact ht)).trans (h.out t ht)⟩
theorem Fr.left {m n:Nat} {a b:Env} (h:Fr m a b):Fr (m ||| n) a b:=⟨h.size,fun t ht=>h.get t (by rw [Nat.testBit_or] at ht;simp only [aad] at ht;exact ht.1),h.out⟩
theorem Fr.right {m n:Nat} {a b:Env} (h:Fr n a b):Fr (m ||| n) a b:=⟨h.size,fun t ht=>h.get t (by rw [Nat.testBit_or] at ht;simp only [aad] at ht;exact ht.2),h.out⟩
theorem Fr.put {s s1:Env} {d:Option Nat} {v:Value} (h:s.put d v=some s1):Fr (IB d) s s1:=by
 cases d with
 | none=>simp only [Env.put,Se] at h;subst h;exact .refl _ _
 | some d=>
   simp only [Env.put] at h
   obtain ⟨hd,h⟩:=zv h
   simp only [Se] at h
   subst h
   have hd:d < s.size:=by simpa [S6] using hd
   refine ⟨rfl,fun t ht => ?_,fun t ht => ?_⟩
   ·rw [Env.yD]
    simp only [IB,Nat.testBit_shiftLeft] at ht
    rw [Sl (by intro e;subst e;simp at ht)]
   ·rw [Env.yD,Sl (by omega)]
def nth:List Value->Nat->Value
 | [],_=>bot
 | a :: _,0=>a
 | _ :: l,n + 1=>nth l n
def WL (lv:Nat) (s:Env):List Nat->List Value
 | []=>[]
 | t :: ts=>cond (lv.testBit t) (s.get t :: WL lv s ts) (WL lv s ts)
def Uz (lv:Nat) (vs:List Value):List Nat->Nat->Env->Env
 | [],_,s=>s
 | t :: ts,i,s=>cond (lv.testBit t) (Uz lv vs ts (i + 1) (s.set t (nth vs i))) (Uz lv vs ts i (s.set t bot))
theorem cW {lv:Nat} {vs:List Value} {r1 s1:Env} (h1:Le r1 s1):∀ (ts:List Nat) (i:Nat) (r:Env),r.size=s1.size->(∀ k,nth vs (i + k)=nth (WL lv r1 ts) k)->(∀ t,t ∈ ts\/ym (r.get t)=true\/r.get t=s1.get t)->Le (Uz lv vs ts i r) s1
 | [],i,r,hz,_,h=>⟨hz,fun t=>by rcases h t with h | h; · cases h
                                ·exact h⟩
 | t :: ts,i,r,hz,hv,h=>by
   simp only [Uz]
   cases hb:lv.testBit t with
   | true=>
     simp only [SA]
     have e0:nth vs i=r1.get t:=by have:=hv 0;simp only [WL,hb,SA] at this;exact this
     refine cW h1 ts (i + 1) _ hz (fun k => ?_) (fun t' => ?_)
     ·have:=hv (k + 1);simp only [WL,hb,SA] at this
      rw [show i + 1 + k=i + (k + 1) by omega];exact this
     ·rw [Env.yD,e0]
      by_cases e:t'=t
      ·subst e;rw [Sn rfl];exact .inr (h1.get t')
      ·rw [Sl e]
       rcases h t' with h2 | h2
       ·rcases Tq.1 h2 with h3 | h3
        ·exact absurd h3 e
        ·exact .inl h3
       ·exact .inr h2
   | false=>
     simp only [SK]
     refine cW h1 ts i _ hz (fun k => ?_) (fun t' => ?_)
     ·have:=hv k;simp only [WL,hb,SK] at this;exact this
     ·rw [Env.yD]
      by_cases e:t'=t
      ·rw [Sn e];exact .inr (.inl rfl)
      ·rw [Sl e]
       rcases h t' with h2 | h2
       ·rcases Tq.1 h2 with h3 | h3
        ·exact absurd h3 e
        ·exact .inl h3
       ·exact .inr h2
theorem join_le {lv m:Nat} {r s r1 s1:Env} (h:Le r s) (h1:Le r1 s1) (f:Fr m s s1):Le (Uz lv (WL lv r1 (bits m r.size)) (bits m r.size) 0 r) s1:=by
 refine cW h1 _ _ _ (h.size.trans f.size.symm) (fun k=>by rw [Sy]) (fun t => ?_)
 by_cases hm:m.testBit t=true
 ·by_cases hz:t < r.size
  ·exact .inl (Hs.2 ⟨hz,hm⟩)
  ·
   rcases h.get t with e | e
   ·exact .inr (.inl e)
   ·exact .inr (.inr (e.trans (f.out t (by rw [<- h.size];omega)).symm))
 ·simp only [aaj] at hm
  rcases h.get t with e | e
  ·exact .inr (.inl e)
  ·exact .inr (.inr (e.trans (f.get t hm).symm))
def O1 (P:Program) (s:Env) (o:Oper) (h:za) (K:Value->za->Prop):Prop:=match o.op with
 | .call { callee := .value f,args,argTypes }=>zO P (ev s f) (aR s args.toList) h K
 | _=>HC P s o h K
def GD (g:Value) (want:Bool) (A:(Value->za->Prop)->Prop) (K:Value->za->Prop) (h:za):Prop:=match g with
 | .bool b=>(b=want->A K)/\(b ≠ want->K undef h)
 | .complex _ _ _=>False
 | _=>K undef h
def Ic (P:Program) (ops:Array Oper):List Oper->Env->za->(Env->za->Prop)->Prop
 | [],s,h,K=>K s h
 | o :: os,s,h,K=>(match o.guard with
   | none=>O1 P s o h fun v h1=>(match s.put o.dst v with
     | some s1=>Ic P ops os s1 h1 K
     | none=>False)
   | some (j,want)=>(match (ops[j]?).bind (·.dst) with
     | none=>False
     | some d=>GD (s.get d) want (O1 P s o h) (fun v h1=>(match s.put o.dst v with
       | some s1=>Ic P ops os s1 h1 K
       | none=>False)) h))
theorem du.af {h h':za} (w:du h) (a:AF h h'):du h' :=
 ⟨fun b o hb=>by
  rcases a.alive b o hb with e | e
  ·cases hh:h.get b with
   | none=>exact absurd hh e
   | some o'=>exact Sq (w.1 b o' hh) a.next
  ·exact e.2,by rw [a.ro];exact S4 w.2 a.next⟩
theorem GO {ops:Array Oper} {r s:Env} {h:za} {o:Oper} {f:Operand} {args:Array Operand} {ts:Array TypeId} {K:Value->za->Prop}
  (hw:yw ops s o=true) (hl:Le r s) (wf:du h) (yU:o.op = .call { callee := .value f,args:=args,argTypes:=ts }) (hk:zO P (ev r f) (aR r args.toList) h K) :
  ∃ v h1,K v h1/\AF h h1 /\ ∀ (i:Nat) (rest:List Nat) (s1:Env) (Q:Env->za->Prop),ops[i]? = some o->s.put o.dst v=some s1->TO P ops rest s1 h1 Q->TO P ops (i :: rest) s h Q:=by
 unfold zO at hk
 split at hk
 ·rename_i g a c hf
  have ef:jb s f=some (.func (.func g) a c):=by rw [Z9 hl (x:=f) (by rw [hf];rfl),hf]
  obtain ⟨hn0,hn,hk⟩:=hk
  have ea:=US hl hn0
  rcases hk with ⟨hc,hd⟩ | hk
  ·obtain ⟨v,h1,hK,af,hT⟩:=hd wf
   exact ⟨v,h1,hK,af,fun i rest s1 Q ho hp ht=>CC ho hw yU ef ea hc hT (by rintro v2 h2 ⟨rfl,rfl⟩;exact ⟨s1,hp,ht⟩)⟩
  ·obtain ⟨v,g',e,hk⟩:=ZK hk
   exact ⟨v,g',hk,(Xb e).af,fun i rest s1 Q ho hp ht=>LJ ho hw (by rw [yU];rfl) (fun ρ w a hr hs=>oN yU ef ea e hr hs) hp ht⟩
 ·rename_i L a c hf
  obtain ⟨ha,hc,hn,hk⟩:=hk
  obtain ⟨v,h1,hK,af,hT⟩:=hk wf
  subst ha hc
  have ef:jb s f=some (.func (.yield L) #[] #[]):=by rw [Z9 hl (x:=f) (by rw [hf];rfl),hf]
  exact ⟨v,h1,hK,af,fun i rest s1 Q ho hp ht=>rf ho hw yU ef (US hl hn) hT (by rintro v2 h2 ⟨rfl,rfl⟩;exact ⟨s1,hp,ht⟩)⟩
 ·exact hk.elim
theorem Np {ops:Array Oper} {r s:Env} {h:za} {o:Oper} {K:Value->za->Prop} (hw:yw ops s o=true) (hl:Le r s) (wf:du h) (hk:O1 P r o h K) :
  ∃ v u h1,K v h1/\(ym v=true\/v=u)/\AF h h1 /\ ∀ (i:Nat) (rest:List Nat) (s1:Env) (Q:Env->za->Prop),ops[i]? = some o->s.put o.dst u=some s1->TO P ops rest s1 h1 Q->TO P ops (i :: rest) s h Q:=by
 unfold O1 at hk
 split at hk
 ·rename_i f args ts yU
  obtain ⟨v,h1,hK,af,go⟩:=GO (ops:=ops) hw hl wf yU hk
  exact ⟨v,v,h1,hK,.inr rfl,af,go⟩
 ·obtain ⟨v,u,h',e,hv,hk⟩:=j5 hl hk
  exact ⟨v,u,h',hk,hv,(Yv e).1,fun i rest s1 Q ho hp ht=>LL ho hw e hp ht⟩
theorem nY {ops:Array Oper}:∀ (l:List Oper) (i:Nat) {r s:Env} {h:za} {K:Env->za->Prop},ops.toList.drop i=l->Le r s->du h->Ic P ops l r h K ->
  ∃ r' s' h',Le r' s'/\K r' h'/\Fr (Vh l) s s'/\AF h h'/\TO P ops (List.range' i l.length) s h (fun s1 h1=>s1=s'/\h1=h')
 | [],i,r,s,h,K,_,hl,wf,hk=>⟨r,s,h,hl,hk,.refl _ _,.refl _,Fx ⟨rfl,rfl⟩⟩
 | o :: os,i,r,s,h,K,hd,hl,wf,hk=>by
   have ho:ops[i]? = some o:=by
    have:=congrArg (fun l=>l[0]?) hd
    simp only [S5,Si] at this
    simpa using this
   have hd':ops.toList.drop (i + 1)=os:=by rw [<- aat,hd];rfl
   rw [SD,List.range'_succ]
   have next:∀ v u h1,AF h h1->(match r.put o.dst v with | some s1=>Ic P ops os s1 h1 K | none=>False)->(ym v=true\/v=u)->∃ s1 r' s' h',s.put o.dst u=some s1/\Le r' s'/\K r' h'/\Fr (Vh (o :: os)) s s'/\AF h h' /\
     TO P ops (List.range' (i + 1) os.length) s1 h1 (fun s1 h1=>s1=s'/\h1=h'):=by
    intro v u h1 af hk hv
    split at hk
    ·rename_i r1 hp
     obtain ⟨s1,hp1,hl1⟩:=hl.put hp hv
     obtain ⟨r',s',h',l',k',f',a',t'⟩:=nY os (i + 1) hd' hl1 (wf.af af) hk
     exact ⟨s1,r',s',h',hp1,l',k',(Fr.put hp1).left.trans f'.right,af.trans a',t'⟩
    ·exact hk.elim
   have run:yw ops s o=true->O1 P r o h (fun v h1=>match r.put o.dst v with | some s1=>Ic P ops os s1 h1 K | none=>False) ->
     ∃ r' s' h',Le r' s'/\K r' h'/\Fr (Vh (o :: os)) s s'/\AF h h'/\TO P ops (i :: List.range' (i + 1) os.length) s h (fun s1 h1=>s1=s'/\h1=h'):=by
    intro hw hk
    obtain ⟨v,u,h1,hK,hv,af,go⟩:=Np (ops:=ops) hw hl wf hk
    obtain ⟨s1,r',s',h',hp,l',k',f',a',t'⟩:=next v u h1 af hK hv
    exact ⟨r',s',h',l',k',f',a',go i _ s1 _ ho hp t'⟩
   have skip:yw ops s o=false->(match r.put o.dst undef with | some s1=>Ic P ops os s1 h K | none=>False) ->
     ∃ r' s' h',Le r' s'/\K r' h'/\Fr (Vh (o :: os)) s s'/\AF h h'/\TO P ops (i :: List.range' (i + 1) os.length) s h (fun s1 h1=>s1=s'/\h1=h'):=by
    intro hw hk
    obtain ⟨s1,r',s',h',hp,l',k',f',a',t'⟩:=next undef undef h (.refl _) hk (.inr rfl)
    exact ⟨r',s',h',l',k',f',a',CE ho hw hp t'⟩
   simp only [Ic] at hk
   split at hk
   ·rename_i hg
    exact run (by simp only [yw,hg]) hk
   ·rename_i j want hg
    split at hk
    ·exact hk.elim
    ·rename_i d hdst
     unfold GD at hk
     split at hk
     ·rename_i b hb
      have hs:s.get d = .bool b:=by
       rcases hl.get d with e | e
       ·rw [hb] at e;cases e
       ·rw [<- e,hb]
      have haw:yw ops s o=(b == want):=by simp only [yw,hg,hdst,hs]
      by_cases hbw:b=want
      ·exact run (by rw [haw,hbw];simp) (hk.1 hbw)
      ·exact skip (by rw [haw];simpa using hbw) (hk.2 hbw)
     ·exact hk.elim
     ·rename_i n1 n2
      have hs:s.get d=r.get d:=by
       rcases hl.get d with e | e
       ·obtain ⟨k,p,q,e2⟩:=XO e;exact absurd e2 (n2 k p q)
       ·exact e.symm
      have haw:yw ops s o=false:=by
       simp only [yw,hg,hdst,hs]
      exact skip haw hk
structure Ks where
 pY:Env->za->Prop
 ret:Env->za->Prop
 ext:Nat->Env->za->Prop
def Ks.on (K:Ks):Ex->Env->za->Prop
 | .normal=>K.pY
 | .ret=>K.ret
 | .exit id=>K.ext id
def Ks.with (K:Ks) (n:Env->za->Prop):Ks:=⟨n,K.ret,K.ext⟩
def CD (g:Value) (A B:(List Value->za->Prop)->Prop) (J:List Value->za->Prop):Prop:=match g with
 | .bool true=>A J
 | .bool false=>B J
 | _=>False
def BK (A:(List Value->za->Prop)->Prop) (J:List Value->za->Prop):Prop:=A J
def LP (step:List Value->za->(List Value->za->Prop)->Prop) (vs:List Value) (h:za):Prop :=
 ∃ (I:Nat->List Value->za->Prop) (n:Nat),I n vs h /\ ∀ n vs h,I n vs h->step vs h (fun vs' h' => ∃ m,m < n/\I m vs' h')
def Nh:Unit:=(fun (_:Prop)=>()) (∀ (P:Program) (ops:Array Oper) (l:List Oper) (s:Env) (h:za) (K:Env->za->Prop) (A B:(List Value->za->Prop)->Prop) (J:List Value->za->Prop) (g:Value) (st:List Value->za->(List Value->za->Prop)->Prop) (vs:List Value),Ic P ops l s h K/\CD g A B J/\BK A J/\LP st vs h)
def Mh (b:Bool) (x y:Prop):Prop:=Function.const Unit (cond b x y) Nh
abbrev Mp:=Nat->Code->Env->za->Ks->Prop
def PI (P:Program) (D:Array Oper->Env->za->(Env->za->Prop)->Prop) (rec:Mp):Mp:=fun lv c s h K=>match c with
 | .skip=>K.pY s h
 | .label _=>K.pY s h
 | .exit id=>K.ext id s h
 | .ret=>K.ret s h
 | .seq a b=>rec (lv ||| p6 b) a s h (K.with fun s1 h1=>rec lv b s1 h1 K)
 | .cond x a b=>CD (ev s x) (fun j=>rec lv a s h (K.with fun s1 h1=>j (WL lv s1 (bits (ZY a ||| ZY b) s.size)) h1)) (fun j=>rec lv b s h (K.with fun s1 h1=>j (WL lv s1 (bits (ZY a ||| ZY b) s.size)) h1))
   (fun vs h1=>K.pY (Uz lv vs (bits (ZY a ||| ZY b) s.size) 0 s) h1)
 | .block id a=>BK (fun j=>rec lv a s h ⟨fun s1 h1=>j (WL lv s1 (bits (ZY a) s.size)) h1,K.ret,fun i s1 h1=>cond (Nat.beq i id) (j (WL lv s1 (bits (ZY a) s.size)) h1) (K.ext i s1 h1)⟩)
   (fun vs h1=>K.pY (Uz lv vs (bits (ZY a) s.size) 0 s) h1)
 | .scope a=>rec lv a s h K
 | .loop a=>LP (fun vs h1 j=>rec (lv ||| p6 a) a (Uz (lv ||| p6 a) vs (bits (ZY a) s.size) 0 s) h1 (K.with fun s1 h2=>j (WL (lv ||| p6 a) s1 (bits (ZY a) s.size)) h2))
   (WL (lv ||| p6 a) s (bits (ZY a) s.size)) h
 | .region _ ops draw=>Mh draw (D ops s h K.pY) (Ic P ops ops.toList s h K.pY)
 | _=>False
def KI (P:Program) (D:Array Oper->Env->za->(Env->za->Prop)->Prop):Prop :=
 ∀ ops r s h K rd id,Le r s->du h->D ops r h K->∃ r' s' h',Le r' s'/\K r' h'/\Fr (Vh ops.toList) s s'/\AF h h'/\T P rd (.region id ops true) s h (fun e s1 h1=>e = .normal/\s1=s'/\h1=h')
def Good (P:Program) (rd:Option Nat) (rec:Mp):Prop := ∀ lv c r s h K,Le r s->du h->rec lv c r h K->∃ e r' s' h',Le r' s'/\K.on e r' h'/\Fr (ZY c) s s'/\AF h h'/\T P rd c s h (fun e1 s1 h1=>e1=e/\s1=s'/\h1=h')
theorem H8 {D:Array Oper->Env->za->(Env->za->Prop)->Prop} (hD:KI P D) {rd:Option Nat} {rec:Mp} (G:Good P rd rec):Good P rd (PI P D rec):=by
 intro lv c r s h K hl wf hk
 cases c with
 | skip=>exact ⟨.normal,r,s,h,hl,hk,.refl _ _,.refl _,Fz ⟨rfl,rfl,rfl⟩⟩
 | label l=>exact ⟨.normal,r,s,h,hl,hk,.refl _ _,.refl _,CF ⟨rfl,rfl,rfl⟩⟩
 | exit id=>exact ⟨.exit id,r,s,h,hl,hk,.refl _ _,.refl _,Fy ⟨rfl,rfl,rfl⟩⟩
 | ret=>exact ⟨.ret,r,s,h,hl,hk,.refl _ _,.refl _,LM ⟨rfl,rfl,rfl⟩⟩
 | seq a b=>
   obtain ⟨e,r1,s1,h1,l1,k1,f1,a1,t1⟩:=G _ _ _ _ _ _ hl wf hk
   cases e with
   | normal=>
     obtain ⟨e2,r2,s2,h2,l2,k2,f2,a2,t2⟩:=G _ _ _ _ _ _ l1 (wf.af a1) k1
     refine ⟨e2,r2,s2,h2,l2,k2,f1.left.trans f2.right,a1.trans a2,CH (t1.mono ?_)⟩
     rintro e s3 h3 ⟨rfl,rfl,rfl⟩
     exact t2
   | ret=>
     refine ⟨.ret,r1,s1,h1,l1,k1,f1.left,a1,CH (t1.mono ?_)⟩
     rintro e s3 h3 ⟨rfl,rfl,rfl⟩
     exact ⟨rfl,rfl,rfl⟩
   | exit id=>
     refine ⟨.exit id,r1,s1,h1,l1,k1,f1.left,a1,CH (t1.mono ?_)⟩
     rintro e s3 h3 ⟨rfl,rfl,rfl⟩
     exact ⟨rfl,rfl,rfl⟩
 | cond x a b=>
   have fin:∀ (c:Code),(∀ s s1,Fr (ZY c) s s1->Fr (ZY a ||| ZY b) s s1)->rec lv c r h (K.with fun s1 h1=>(fun vs h1=>K.pY (Uz lv vs (bits (ZY a ||| ZY b) r.size) 0 r) h1) (WL lv s1 (bits (ZY a ||| ZY b) r.size)) h1) ->
     ∃ e r' s' h',Le r' s'/\K.on e r' h'/\Fr (ZY a ||| ZY b) s s'/\AF h h'/\T P rd c s h (fun e1 s1 h1=>e1=e/\s1=s'/\h1=h'):=by
    intro c hf hk
    obtain ⟨e,r1,s1,h1,l1,k1,f1,a1,t1⟩:=G _ _ _ _ _ _ hl wf hk
    have f2:=hf _ _ f1
    cases e with
    | normal=>exact ⟨.normal,_,s1,h1,join_le hl l1 f2,k1,f2,a1,t1⟩
    | ret=>exact ⟨.ret,r1,s1,h1,l1,k1,f2,a1,t1⟩
    | exit id=>exact ⟨.exit id,r1,s1,h1,l1,k1,f2,a1,t1⟩
   unfold PI at hk
   dsimp only at hk
   unfold CD at hk
   split at hk
   ·rename_i hx
    obtain ⟨e,r',s',h',q1,q2,q3,q4,t⟩:=fin a (fun _ _ f=>f.left) hk
    exact ⟨e,r',s',h',q1,q2,q3,q4,n6 (t:=true) (by rw [Z9 hl (x:=x) (by rw [hx];rfl),hx]) t⟩
   ·rename_i hx
    obtain ⟨e,r',s',h',q1,q2,q3,q4,t⟩:=fin b (fun _ _ f=>f.right) hk
    exact ⟨e,r',s',h',q1,q2,q3,q4,n6 (t:=false) (by rw [Z9 hl (x:=x) (by rw [hx];rfl),hx]) t⟩
   ·exact hk.elim
 | block id a=>
   have hk:rec lv a r h _:=hk
   obtain ⟨e,r1,s1,h1,l1,k1,f1,a1,t1⟩:=G _ _ _ _ _ _ hl wf hk
   cases e with
   | normal=>
     refine ⟨.normal,_,s1,h1,join_le hl l1 f1,k1,f1,a1,Jx (t1.mono ?_)⟩
     rintro e s3 h3 ⟨rfl,rfl,rfl⟩
     rw [Sl (by simp)];exact ⟨rfl,rfl,rfl⟩
   | ret=>
     refine ⟨.ret,r1,s1,h1,l1,k1,f1,a1,Jx (t1.mono ?_)⟩
     rintro e s3 h3 ⟨rfl,rfl,rfl⟩
     rw [Sl (by simp)];exact ⟨rfl,rfl,rfl⟩
   | exit i=>
     simp only [Ks.on] at k1
     by_cases hi:i=id
     ·subst hi
      rw [show Nat.beq i i=true from aaa i] at k1
      refine ⟨.normal,_,s1,h1,join_le hl l1 f1,k1,f1,a1,Jx (t1.mono ?_)⟩
      rintro e s3 h3 ⟨rfl,rfl,rfl⟩
      rw [Sn rfl];exact ⟨rfl,rfl,rfl⟩
     ·rw [Tr.beq_false hi] at k1
      refine ⟨.exit i,r1,s1,h1,l1,k1,f1,a1,Jx (t1.mono ?_)⟩
      rintro e s3 h3 ⟨rfl,rfl,rfl⟩
      rw [Sl (by simpa using hi)];exact ⟨rfl,rfl,rfl⟩
 | scope a=>
   obtain ⟨e,r1,s1,h1,l1,k1,f1,a1,t1⟩:=G _ _ _ _ _ _ hl wf hk
   exact ⟨e,r1,s1,h1,l1,k1,f1,a1,CG t1⟩
 | loop a=>
   unfold PI at hk
   dsimp only at hk
   obtain ⟨I,n,h0,hI⟩:=hk
   have key:∀ n r1 s1 h1,Le r1 s1->du h1->Fr (ZY a) s s1->I n (WL (lv ||| p6 a) r1 (bits (ZY a) r.size)) h1 ->
     ∃ e r' s' h',Le r' s'/\K.on e r' h'/\Fr (ZY a) s s'/\AF h1 h'/\T P rd (.loop a) s1 h1 (fun e1 s2 h2=>e1=e/\s2=s'/\h2=h'):=by
    intro n
    induction n using Nat.strongRecOn with
    | _ n ih=>
      intro r1 s1 h1 l1 wf1 f1 hn
      have hstep:=hI n _ h1 hn
      obtain ⟨e,r2,s2,h2,l2,k2,f2,a2,t2⟩:=G _ _ _ _ _ _ (join_le hl l1 f1) wf1 hstep
      cases e with
      | normal=>
        obtain ⟨m,hm,k2⟩:=k2
        obtain ⟨e3,r3,s3,h3,l3,k3,f3,a3,t3⟩:=ih m hm r2 s2 h2 l2 (wf1.af a2) (f1.trans f2) k2
        refine ⟨e3,r3,s3,h3,l3,k3,f3,a2.trans a3,WV (t2.mono ?_)⟩
        rintro e s4 h4 ⟨rfl,rfl,rfl⟩
        exact t3
      | ret=>
        refine ⟨.ret,r2,s2,h2,l2,k2,f1.trans f2,a2,WV (t2.mono ?_)⟩
        rintro e s4 h4 ⟨rfl,rfl,rfl⟩
        exact ⟨rfl,rfl,rfl⟩
      | exit i=>
        refine ⟨.exit i,r2,s2,h2,l2,k2,f1.trans f2,a2,WV (t2.mono ?_)⟩
        rintro e s4 h4 ⟨rfl,rfl,rfl⟩
        exact ⟨rfl,rfl,rfl⟩
   exact key n r s h hl wf (.refl _ _) h0
 | region id ops draw=>
   cases draw with
   | true=>
     obtain ⟨r',s',h',q1,q2,q3,q4,t⟩:=hD ops r s h K.pY rd id hl wf hk
     exact ⟨.normal,r',s',h',q1,q2,q3,q4,t⟩
   | false=>
     have hk:Ic P ops ops.toList r h K.pY:=hk
     obtain ⟨r',s',h',q1,q2,q3,q4,t⟩:=nY ops.toList 0 (Tx) hl wf hk
     refine ⟨.normal,r',s',h',q1,q2,q3,q4,ri ?_⟩
     rw [List.range_eq_range']
     rw [Tz] at t
     exact (fun ρ w tm ds hr hs b k cs=>by
      obtain ⟨s1,h1,ρ1,w1,tm1,⟨e1,e2⟩,rest⟩:=t ρ w tm ds hr hs b k cs
      exact ⟨s1,h1,ρ1,w1,tm1,⟨rfl,e1,e2⟩,rest⟩)
 | _=>exact hk.elim
def RK (pY ret:za->Prop) (ext:Nat->za->Prop) (e:Ex) (h:za):Prop:=match e with
 | .normal=>pY h
 | .ret=>ret h
 | .exit i=>ext i h
def RF (P:Program) (f:Value) (params:Array Tmp) (as bd:Code) (s:Env) (h:za) (pY ret:za->Prop) (ext:Nat->za->Prop):Prop:=match f with
 | .func (.func g) a c=>ux P g=true /\ ∀ s1,Le s s1->DC P g (a.toList ++ [.func (.yield h.next) #[] #[]] ++ c.toList) (h.push (.loop { state := .ready,pending:=none,s:=s1,params:=params,assign:=as,body:=bd }))
   (fun _ h1 => ∃ A,h1.get h.next=some (.loop A)/\(A.state == .busy)=false/\h1.ro<=h.next /\ ∃ e,Xk e=A.pending/\RK pY ret ext e (h1.set h.next none))
 | _=>False
def RO (P:Program) (D:Array Oper->Env->za->(Env->za->Prop)->Prop) (rec:Mp):Mp:=fun lv c s h K=>match c with
 | .rangeFunc f params as bd=>RF P (ev s f) params as bd s h (fun h1=>K.pY s h1) (fun h1=>K.ret s h1) (fun i h1=>K.ext i s h1)
 | c=>PI P D rec lv c s h K
def RN (P:Program) (D:Array Oper->Env->za->(Env->za->Prop)->Prop) (n:Nat):Mp:=Nat.rec (fun _ _ _ _ _=>False) (fun _ rec=>RO P D rec) n
theorem At {h:za} (w:du h) (o:vi):du (h.push o):=⟨fun b x hb=>by
 rw [za.uA] at hb
 show b < h.next + 1
 split at hb
 ·rename_i e;omega
 ·have:=w.1 b x hb;omega,Nat.le_succ_of_le w.2⟩
theorem Fu {f:Operand} {params:Array Tmp} {as bd:Code} {r s:Env} {h:za} {pY ret:za->Prop} {ext:Nat->za->Prop} (hl:Le r s) (wf:du h) (hk:RF P (ev r f) params as bd r h pY ret ext) :
  ∃ e h',RK pY ret ext e h'/\AF h h'/\T P none (.rangeFunc f params as bd) s h (fun e1 s1 h1=>e1=e/\s1=s/\h1=h'):=by
 unfold RF at hk
 split at hk
 case h_2=>exact hk.elim
 rename_i g a c hf
 obtain ⟨hc,hd⟩:=hk
 obtain ⟨v,h1,⟨A,gA,bA,ro,e,je,kk⟩,af,t⟩:=hd s hl (At wf _)
 have ef:jb s f=some (.func (.func g) a c):=by rw [Z9 hl (x:=f) (by rw [hf];rfl),hf]
 refine ⟨e,h1.set h.next none,kk,⟨?_,af.ro,fun b o hb => ?_⟩,dt ef hc (fun L q=>by cases q) (t.mono ?_)⟩
 ·have:=af.next
  show h.next<=h1.next
  have e1:(h.push (.loop { state := .ready,pending:=none,s:=s,params:=params,assign:=as,body:=bd })).next=h.next + 1:=rfl
  omega
 ·rw [za.yD] at hb
  split at hb
  ·cases hb
  ·rename_i hne
   rcases af.alive b o hb with q | q
   ·rw [za.uA,Sl hne] at q
    exact .inl q
   ·have e1:(h.push (.loop { state := .ready,pending:=none,s:=s,params:=params,assign:=as,body:=bd })).next=h.next + 1:=rfl
    refine .inr ⟨by omega,?_⟩
    exact q.2
 ·rintro v1 h2 ⟨_,rfl⟩
  exact ⟨A,gA,bA,ro,e,je,rfl,rfl,rfl⟩
theorem Au {D:Array Oper->Env->za->(Env->za->Prop)->Prop} (hD:KI P D):∀ n,Good P none (RN P D n)
 | 0=>fun _ _ _ _ _ _ _ _ hk=>hk.elim
 | n + 1=>fun lv c r s h K hl wf hk=>by
   have key:PI P D (RN P D n) lv c r h K->_:=fun q=>H8 hD (Au hD n) lv c r s h K hl wf q
   cases c with
   | rangeFunc f params as bd=>
     obtain ⟨e,h',kk,af,t⟩:=Fu hl wf hk
     exact ⟨e,r,s,h',hl,by cases e <;> exact kk,.refl _ _,af,t⟩
   | _=>exact key hk
def rv (vs:List Value) (h:za) (R:Value->za->Prop):Prop:=yN vs=true/\R (jT vs) h
def HL (P:Program):List ResultVar->Env->za->(List Value->Prop)->Prop
 | [],s,h,K=>K []
 | .tmp t :: rs,s,h,K=>HL P rs s h fun vs=>K (s.get t :: vs)
 | .cell a t :: rs,s,h,K=>opt (zd P t (s.get a) h) fun v=>HL P rs s h fun vs=>K (v :: vs)
def NB:List ResultVar->Nat
 | []=>0
 | .tmp t :: rs=>(1 <<< t) ||| NB rs
 | .cell a _ :: rs=>(1 <<< a) ||| NB rs
def WT (P:Program) (D:Array Oper->Env->za->(Env->za->Prop)->Prop) (n:Nat) (f:FuncId) (args:List Value) (h:za) (R:Value->za->Prop):Prop :=
 match P.funcs[f]? with
 | some fn=>(match fn.body with
   | some c=>RN P D n (NB fn.results.toList) c (Env.enter args fn.ntmps) h ⟨fun s h=>HL P fn.results.toList s h fun vs=>rv vs h R,fun s h=>HL P fn.results.toList s h fun vs=>rv vs h R,fun _ _ _=>False⟩
   | none=>False)
 | none=>False
theorem UA {r s:Env} {h:za} (hl:Le r s):∀ {rs:List ResultVar} {K:List Value->Prop},HL P rs r h K->(∀ vs,K vs->yN vs=true)->∃ vs,qO P s h rs=some vs/\K vs
 | [],K,hk,_=>⟨[],rfl,hk⟩
 | .tmp t :: rs,K,hk,hn=>by
   obtain ⟨vs,e,q⟩:=UA hl (rs:=rs) hk (fun vs q=>by
    have:=hn _ q
    simp only [yN] at this
    cases hb:ym (r.get t) with
    | true=>rw [hb] at this;cases this
    | false=>rw [hb] at this;exact this)
   have hb:ym (r.get t)=false:=by
    have:=hn _ q
    simp only [yN] at this
    cases hb:ym (r.get t) with
    | true=>rw [hb] at this;cases this
    | false=>rfl
   have et:r.get t=s.get t:=by
    rcases hl.get t with e | e
    ·rw [e] at hb;cases hb
    ·exact e
   exact ⟨_,by simp only [qO,e,<- et],q⟩
 | .cell a t :: rs,K,hk,hn=>by
   obtain ⟨v,ev,hk⟩:=qt hk
   have et:r.get a=s.get a:=by
    rcases hl.get a with e | e
    ·obtain ⟨k,p,q,e2⟩:=XO e;rw [e2] at ev;cases ev
    ·exact e
   obtain ⟨vs,e,q⟩:=UA hl (rs:=rs) hk (fun vs q=>by
    have:=hn _ q
    simp only [yN] at this
    cases hb:ym v with
    | true=>rw [hb] at this;cases this
    | false=>rw [hb] at this;exact this)
   exact ⟨_,by simp only [qO,<- et,ev,e],q⟩
theorem lJ {D:Array Oper->Env->za->(Env->za->Prop)->Prop} (hD:KI P D) {n:Nat} {f:FuncId} {args:List Value} {h:za} {R:Value->za->Prop} (hk:WT P D n f args h R):DC P f args h R:=by
 intro wf
 unfold WT at hk
 split at hk
 case h_2=>exact hk.elim
 rename_i fn hf
 split at hk
 case h_2=>exact hk.elim
 rename_i c hb
 obtain ⟨e,r1,s1,h1,l1,k1,_,a1,t1⟩:=Au hD n _ _ _ _ _ _ (.refl _) wf hk
 have fin:∀ {e:Ex},(e = .normal\/e = .ret)->(∃ vs,qO P s1 h1 fn.results.toList=some vs/\yN vs=true/\R (jT vs) h1)->T P none c (Env.enter args fn.ntmps) h (fun e1 s2 h2=>e1=e/\s2=s1/\h2=h1) ->
   ∃ v h1,R v h1/\AF h h1/\TC P f args h (fun v' h'=>v'=v/\h'=h1):=by
  rintro e he ⟨vs,e1,_,q⟩ t
  refine ⟨_,h1,q,a1,CB hf hb (t.mono ?_)⟩
  rintro e s2 h2 ⟨rfl,rfl,rfl⟩
  exact ⟨he,vs,e1,rfl,rfl⟩
 cases e with
 | normal=>
   obtain ⟨vs,e,q⟩:=UA l1 k1 (fun vs q=>q.1)
   exact fin (.inl rfl) ⟨vs,e,q⟩ t1
 | ret=>
   obtain ⟨vs,e,q⟩:=UA l1 k1 (fun vs q=>q.1)
   exact fin (.inr rfl) ⟨vs,e,q⟩ t1
 | exit id=>exact k1.elim
end
end Go.Ai
