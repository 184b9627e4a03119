import Derived.Test.YtpjjmindjodknaaGreatTC
import Derived.ChangeSame
import Derived.Carry
import Derived.ProofKit
import Derived.ChangeStays
import Derived.ChangeArms
import Derived.SizedLaws
set_option linter.unusedVariables false
set_option linter.unusedSimpArgs false
set_option maxRecDepth 100000
namespace Go.Ai
noncomputable section
variable {P:Program} {cls:List Nat}
def Frames (rec:ZK):Prop := ∀ t h o h',rec t h=some (o,h')->AF h h'
def WF (h:za):Prop := ∀ b o,h.get b=some o->b < h.next
theorem WF.af {h h':za} (w:WF h) (a:AF h h'):WF h':=by
 intro b o hb
 rcases a.alive b o hb with h1 | ⟨_,h2⟩
 ·obtain ⟨o',ho'⟩:∃ o,h.get b=some o:=by cases hh:h.get b with | none=>exact absurd hh h1 | some o=>exact ⟨o,rfl⟩
  exact NH (w b o' ho') a.next
 ·exact h2
theorem AF.lock {h h':za} (a:AF h.lock h'):h.next<=h'.next /\ ∀ b o,h'.get b=some o->h.get b ≠ none\/(h.next<=b/\b < h'.next):=⟨a.next,a.alive⟩
theorem AF.wU {h h2:za} (hn:h.next<=h2.next):AF h (wU h h2):=⟨hn,rfl,fun b o hb=>by
 rw [x7] at hb
 split at hb
 ·rename_i hc;exact .inr hc
 ·exact .inl (by rw [hb];simp)⟩
def Qf (ops:Array Oper) (ms:List Nat):Prop := ∀ k q,(ms.getD k 0).testBit q=true->Prec ops q k
theorem uX {ops:Array Oper} {ms:List Nat} (hm:Qf ops ms) {i:Nat} {o:Oper} (ho:ops[i]? = some o) {q:Nat} (h:(yN ms o).testBit q=true):Prec ops q i:=by
 have key:∀ (l:List Edge) (m:Nat),(∀ e,e ∈ l->e ∈ o.after)->(l.foldl (fun m e=>cond (Region.binds .any e) (m ||| (1 <<< e.on) ||| ms.getD e.on 0) m) m).testBit q=true->m.testBit q=true\/Prec ops q i:=by
  intro l
  induction l with
  | nil=>intro m _ h;exact .inl h
  | cons e l ih=>
    intro m hl h
    rw [List.foldl_cons] at h
    rcases ih _ (fun x hx=>hl x (by simp [hx])) h with h1 | h1
    ·cases hb:Region.binds .any e with
     | false=>rw [hb] at h1;exact .inl h1
     | true=>
       rw [hb] at h1
       simp only [NR,Nat.testBit_or,Og] at h1
       rcases h1 with (h1 | h1) | h1
       ·exact .inl h1
       ·rw [Nat.testBit_shiftLeft] at h1
        simp only [ND,N8,Nat.testBit_one_eq_true_iff_self_eq_zero] at h1
        have:q=e.on:=by omega
        subst this
        exact .inr (.one ho (hl e (by simp)) hb)
       ·exact .inr (.more ho (hl e (by simp)) hb (hm _ _ h1))
    ·exact .inr h1
 rcases key o.after.toList 0 (fun e he=>by simpa using he) h with h1 | h1
 ·simp at h1
 ·exact h1
theorem XC {ops:Array Oper} {ms:List Nat} (hm:Qf ops ms) {i:Nat} (hl:ms.length=i) {o:Oper} (ho:ops[i]? = some o):Qf ops (ms ++ [yN ms o]):=by
 intro k q h
 rcases Nat.lt_trichotomy k i with hk | hk | hk
 ·rw [Oz,Oi (by omega),<- Oz] at h
  exact hm k q h
 ·subst hk
  rw [Oz,Ot (by omega),hl] at h
  simp at h
  exact uX hm ho h
 ·rw [Oz,NM (by simp;omega)] at h
  simp at h
theorem eW (A:List yr) (r:yr) (p:yr->Bool):wO (A ++ [r]) p=if p r=true then some r else wO A p:=by
 simp only [wO,N6,OU,List.filter_nil]
 by_cases h:p r=true
 ·simp [h]
 ·simp [h]
theorem Ur (A:List yr) (r:yr) (s0:Env) (t:Nat):XO (A ++ [r]) s0 t=if r.o.dst=some t then r.v else XO A s0 t:=by
 simp only [XO,eW,XX,N8]
 by_cases h:r.o.dst=some t <;> simp [h]
theorem K9 (A:List yr) (r:yr) (h0:za) (b:Nat):ZA (A ++ [r]) h0 b=if r.tc b=true then r.g'.get b else ZA A h0 b:=by
 simp only [ZA,eW]
 by_cases h:r.tc b=true <;> simp [h]
structure Mr (y:bm):Prop where
 tc:y.all=false->∀ b,y.r.tc b=true ↔ b ∈ y.ri
 lt:∀ b,y.all=true->y.r.tc b=true->True
 Qc:y.Qc=true->(∀ b,y.r.rd b=false) /\ ∀ b,y.r.tc b=false
 ex:y.ex=true->∀ b,y.r.rd b=true->b ∈ y.IF
theorem Aj {ops:Array Oper} {x y:bm} (hx:Mr x) (hy:Mr y) (hs:jA ops x.r.o y.r.o=true) (h:y.Qc=true\/eU x y=true):bU ops x.r y.r:=by
 simp only [jA,ND] at hs
 obtain ⟨h1,h2⟩:=hs
 have hd1:∀ d,x.r.o.dst=some d->d ∉ y.r.o.looksAt ops/\y.r.o.dst ≠ some d:=by
  intro d hd
  rw [hd] at h1
  simp only [ND,NN,NP,N2] at h1
  exact ⟨h1.1,h1.2⟩
 have hd2:∀ d,y.r.o.dst=some d->d ∉ x.r.o.looksAt ops:=by
  intro d hd
  rw [hd] at h2
  simp only [NN,NP,N2] at h2
  exact h2
 rcases h with hl | h
 ·obtain ⟨l1,l2⟩:=hy.Qc hl
  exact ⟨hd1,hd2,fun b _=>⟨l1 b,l2 b⟩,fun b hb=>by rw [l2 b] at hb;cases hb⟩
 simp only [eU,ND] at h
 obtain ⟨h3,h4⟩:=h
 refine ⟨hd1,hd2,?_,?_⟩
 ·intro b hb
  cases ha:x.all with
  | true=>
    rw [ha] at h3
    simp only [NR,Og,ND,NN,NY] at h3
    rcases h3 with h3 | ⟨⟨⟨h3,h5⟩,h6⟩,h7⟩
    ·exact ⟨(hy.Qc h3).1 b,(hy.Qc h3).2 b⟩
    ·refine ⟨?_,?_⟩
     ·cases hr:y.r.rd b with
      | false=>rfl
      | true=>have:=h6 b (hy.ex h3 b hr);rw [hb] at this;cases this
     ·cases hr:y.r.tc b with
      | false=>rfl
      | true=>have:=h7 b ((hy.tc h5 b).1 hr);rw [hb] at this;cases this
  | false=>
    rw [ha] at h3
    simp only [N1,NY,ND,NN] at h3
    exact h3 b ((hx.tc ha b).1 hb)
 ·intro b hb
  cases ha:y.all with
  | true=>
    rw [ha] at h4
    simp only [NR,Og,ND,NN,NY] at h4
    rcases h4 with h4 | ⟨h4,h5⟩
    ·exact (hx.Qc h4).1 b
    ·cases hr:x.r.rd b with
     | false=>rfl
     | true=>have:=h5 b (hx.ex h4 b hr);rw [hb] at this;cases this
  | false=>
    rw [ha] at h4
    simp only [N1,NY,NN] at h4
    exact h4 b ((hy.tc ha b).1 hb)
structure ud (P:Program) (ops:Array Oper) (s0:Env) (h0:za) (A:List yr) (i:Nat) (s:Env) (h:za):Prop where
 js:A.map (·.j)=List.range i
 env:∀ t,s.get t=XO A s0 t
 size:s.size=s0.size
 heap:∀ b,h.get b=ZA A h0 b
 ro:h.ro=h0.ro
 next:h0.next<=h.next
 nA:∀ x,x ∈ A->x.g'.next<=h.next
 wf:WF h
 told:∀ A1 r A2,A=A1 ++ r :: A2->Told P ops s0 h0 A1 r
 X9:∀ A1 r A2,A=A1 ++ r :: A2->∀ e,e ∈ r.o.after->Region.binds .any e=true->∃ x,x ∈ A1/\x.j=e.on
 apart:∀ A1 x A2 y A3,A=A1 ++ x :: (A2 ++ y :: A3)->Prec ops x.j y.j\/bU ops x y
theorem Ca {rec:ZK} (S:Sound P rec) (hF:Frames rec) (hC:jO P cls=true) {ops:Array Oper} {s0:Env} {h0:za} {A:List yr} {recs:List bm} {i mask:Nat} {o:Oper} {os:List Oper} {s:Env} {h h1:za} {y:bm}
  (F:ud P ops s0 h0 A i s h) (ho:ops[i]? = some o) (hput:∀ d,o.dst=some d->d < s.size) (he:eH P cls rec ops recs mask i os o s h=some (y,h1)) :
  y.r.j=i/\y.r.o=o/\Mr y/\Told P ops s0 h0 A y.r/\(∀ b,h1.get b=if y.r.tc b=true then y.r.g'.get b else h.get b)/\h1.ro=h.ro/\h.next<=h1.next/\y.r.g'.next<=h1.next/\WF h1:=by
 unfold eH at he
 cases hw:yi ops s o with
 | false=>
   rw [hw] at he
   simp only [N1,Nz,NB] at he
   obtain ⟨rfl,rfl⟩:=he
   refine ⟨rfl,rfl,⟨fun _ b=>by simp,fun _ _ _=>trivial,fun _=>⟨fun _=>rfl,fun _=>rfl⟩,fun _ b hb=>(by cases hb)⟩,⟨ho,F.env,F.size,fun b=>by rw [uk];simp,F.ro,F.next,F.nA,NG _,.inl ⟨hw,rfl,rfl⟩,fun d hd=>by rw [<- F.size];exact hput d hd,fun b hb=>(by cases hb),fun b _=>rfl,fun b o' hb=>(by cases hb)⟩,fun b=>by simp,rfl,NG _,NG _,F.wf⟩
 | true=>
   rw [hw] at he
   simp only [NR] at he
   split at he
   ·
    rename_i f args ts yz
    split at he
    case h_2=>cases he
    rename_i g fa fc vs hf hargs
    split at he
    ·
     rename_i hk
     have hlt:∀ b,b ∈ (((recs.flatMap fun x=>cond (mask.testBit x.r.j) [] (x.ri ++ x.IF)) ++ KO s ((o :: os).filterMap (·.dst)) os (i + 1) (1 <<< i)).filter fun b=>Nat.blt b h.next)->b < h.next:=fun b hb=>by
      simpa [Of] using (O8.1 hb).2
     generalize (((recs.flatMap fun x=>cond (mask.testBit x.r.j) [] (x.ri ++ x.IF)) ++ KO s ((o :: os).filterMap (·.dst)) os (i + 1) (1 <<< i)).filter fun b=>Nat.blt b h.next)=hid at *
     split at he
     case h_2=>cases he
     rename_i v h' hrec
     simp only [Nz,NB] at he
     obtain ⟨rfl,rfl⟩:=he
     have af:=hF _ _ _ _ hrec
     have hwfh:WF (h.Vq hid):=fun b o' hb=>by
      rw [Zy] at hb
      split at hb
      ·cases hb
      ·exact F.wf b o' hb
     have hwf:=hwfh.af af
     have hn:h.next<=h'.next:=af.next
     have hgone:∀ b,b ∈ hid->h'.get b=none:=by
      intro b hb
      cases hh:h'.get b with
      | none=>rfl
      | some o'=>
        rcases af.alive b o' hh with h2 | ⟨h2,_⟩
        ·rw [Zy,NK hb] at h2;exact absurd rfl h2
        ·have:h.next<=b:=h2
         have:=hlt b hb;omega
     have hbeyond:∀ b,¬ b < h'.next->h'.get b=none/\h.get b=none:=by
      intro b hb
      refine ⟨?_,?_⟩
      ·cases hh:h'.get b with | none=>rfl | some o'=>exact absurd (hwf b o' hh) hb
      ·cases hh:h.get b with | none=>rfl | some o'=>exact absurd (NH (F.wf b o' hh) hn) hb
     refine ⟨rfl,rfl,⟨fun ha=>(by cases ha),fun _ _ _=>trivial,fun hl=>(by cases hl),fun hl=>(by cases hl)⟩,⟨ho,F.env,F.size,fun b => ?_,F.ro,F.next,F.nA,hn,.inr ⟨hw,.inr (.inl ⟨f,args,ts,g,fa,fc,vs,yz,hf,hargs,ji hC hk,S.call _ _ _ _ _ hrec⟩)⟩,fun d hd=>by rw [<- F.size];exact hput d hd,fun b hb => ?_,fun b hb => ?_,fun b o' _ hlt2 hb => ?_⟩,fun b => ?_,af.ro,hn,NG _,?_⟩
     ·rw [Zy]
      simp only [ND,Of,NN,N2,NP]
      by_cases hm:b ∈ hid
      ·rw [NK hm,NJ (fun hc=>hc.2 hm)]
      ·rw [NJ hm]
       by_cases hb:b < h.next
       ·rw [NK ⟨hb,hm⟩];exact F.heap b
       ·rw [NJ (fun hc=>hb hc.1)]
        cases hh:h.get b with
        | none=>rfl
        | some o'=>exact absurd (F.wf b o' hh) hb
     ·simp only [ND,Of,NN,N2,NP] at hb ⊢
      by_cases hb2:b < h.next
      ·exact .inl ⟨hb2,hb.2⟩
      ·exact .inr ⟨Px hb2,hb.1⟩
     ·show h'.get b=(h.Vq hid).get b
      rw [Zy]
      by_cases hm:b ∈ hid
      ·rw [NK hm,hgone b hm]
      ·rw [NJ hm]
       have hb':¬ b < h'.next:=by
        intro hc
        have h3:(Nat.blt b h'.next && !hid.contains b)=true:=by simpa [Of] using ⟨hc,hm⟩
        exact PD ((show (Nat.blt b h'.next && !hid.contains b)=false from hb).symm.trans h3)
       rw [(hbeyond b hb').1,(hbeyond b hb').2]
     ·rcases af.alive b o' hb with h2 | ⟨h2,_⟩
      ·exact h2
      ·exact absurd hlt2 (by show ¬ b < (h.Vq hid).next;omega)
     ·rw [QN]
      simp only [ND,Of,NN,N2,NP]
      by_cases hm:b ∈ hid
      ·rw [NK hm,NJ (fun hc=>hc.2 hm)]
      ·rw [NJ hm]
       by_cases hb:b < h'.next
       ·rw [NK ⟨hb,hm⟩]
       ·rw [NJ (fun hc=>hb hc.1),(hbeyond b hb).1,(hbeyond b hb).2]
     ·intro b o' hb
      rw [QN] at hb
      show b < h'.next
      split at hb
      ·exact NH (F.wf b o' hb) hn
      ·exact hwf b o' hb
    ·
     rename_i hk
     split at he
     case h_2=>cases he
     rename_i v h2 hrec
     obtain ⟨hsc,he⟩:=zn he
     simp only [Nz,NB] at he
     obtain ⟨rfl,rfl⟩:=he
     generalize (recs.flatMap fun x=>cond (mask.testBit x.r.j) [] x.ri)=hid at *
     have hq:TC P g (fa.toList ++ vs ++ fc.toList) (h.Vq hid) (fun v1 h1=>v1=v/\h1=h.Vq hid) :=
      ((S.call _ _ _ _ _ hrec).quiet (fun v2 h2 q=>by rw [q.1];exact hsc)).mono (by rintro v2 h3 ⟨⟨h4,q1,q2⟩,rfl⟩;exact ⟨q1,rfl⟩)
     refine ⟨rfl,rfl,⟨fun _ b=>by simp,fun _ _ _=>trivial,fun hl=>(by cases hl),fun hl=>(by cases hl)⟩,⟨ho,F.env,F.size,fun b => ?_,F.ro,F.next,F.nA,NG _,.inr ⟨hw,.inr (.inl ⟨f,args,ts,g,fa,fc,vs,yz,hf,hargs,ji hC hk,hq⟩)⟩,fun d hd=>by rw [<- F.size];exact hput d hd,fun b hb=>(by cases hb),fun b _=>rfl,fun b o' hb=>(by cases hb)⟩,fun b=>by simp,rfl,NG _,NG _,F.wf⟩
     rw [Zy]
     simp only [ND,Of,NN,N2,NP]
     by_cases hm:b ∈ hid
     ·rw [NK hm,NJ (fun hc=>hc.2 hm)]
     ·rw [NJ hm]
      by_cases hb:b < h.next
      ·rw [NK ⟨hb,hm⟩];exact F.heap b
      ·rw [NJ (fun hc=>hb hc.1)]
       cases hh:h.get b with
       | none=>rfl
       | some o'=>exact absurd (F.wf b o' hh) hb
    ·
     rename_i hk
     split at he
     case h_2=>cases he
     rename_i v h2 hrec
     simp only [Nz,NB] at he
     obtain ⟨rfl,rfl⟩:=he
     generalize (recs.flatMap fun x=>cond (mask.testBit x.r.j) [] x.ri)=hid at *
     have af:=(hF _ _ _ _ hrec).lock
     have hn:h.next<=h2.next:=af.1
     refine ⟨rfl,rfl,⟨fun _ b=>by simp,fun _ _ _=>trivial,fun hl=>(by cases hl),fun hl=>(by cases hl)⟩,⟨ho,F.env,F.size,fun b => ?_,F.ro,F.next,F.nA,hn,.inr ⟨hw,.inr (.inl ⟨f,args,ts,g,fa,fc,vs,yz,hf,hargs,ji hC hk,(S.call _ _ _ _ _ hrec).fresh⟩)⟩,fun d hd=>by rw [<- F.size];exact hput d hd,fun b hb => ?_,fun b hb => ?_,fun b o' hb hlt _ => ?_⟩,fun b => ?_,rfl,hn,NG _,F.wf.af (.wU hn)⟩
     ·rw [Zy]
      simp only [ND,Of,NN,N2,NP]
      by_cases hm:b ∈ hid
      ·rw [NK hm,NJ (fun hc=>hc.2 hm)]
      ·rw [NJ hm]
       by_cases hb:b < h.next
       ·rw [NK ⟨hb,hm⟩];exact F.heap b
       ·rw [NJ (fun hc=>hb hc.1)]
        cases hh:h.get b with
        | none=>rfl
        | some o'=>exact absurd (F.wf b o' hh) hb
     ·simp only [N2,N8,kN] at hb
      exact .inr hb
     ·simp only [N2,NP,kN] at hb
      simp only [x7]
      rw [NJ (show ¬((h.Vq hid).next<=b/\b < h2.next) from hb)]
     ·simp only [N2,N8,kN] at hb
      exact absurd hlt (by show ¬ b < h.next;omega)
     ·simp only [N2,N8,kN,x7]
      by_cases hb:h.next<=b/\b < h2.next
      ·rw [NK hb,NK hb,NK (show (h.Vq hid).next<=b/\b < h2.next from hb)]
      ·rw [NJ hb,NJ hb]
    ·
     split at he
     case h_2=>cases he
     rename_i v g' hop2
     simp only [Nz,NB] at he
     obtain ⟨rfl,rfl⟩:=he
     have still:=ZS hop2
     have af:=still.af
     have hn:h.next<=g'.next:=af.next
     have hro:g'.ro=h.ro:=af.ro
     refine ⟨rfl,rfl,⟨fun _ b=>by simp,fun _ _ _=>trivial,fun hl => ?_,fun _ b hb=>(by cases hb)⟩,⟨ho,F.env,F.size,fun b=>by rw [uk];simp,F.ro,F.next,F.nA,hn,.inr ⟨hw,.inr (.inr ⟨f,args,ts,g,fa,fc,vs,yz,hf,hargs,hop2⟩)⟩,fun d hd=>by rw [<- F.size];exact hput d hd,fun b hb => ?_,fun b hb => ?_,fun b o' hb hlt hg => ?_⟩,fun b => ?_,rfl,hn,NG _,?_⟩
     ·simp only [List.isEmpty_iff] at hl
      refine ⟨fun b=>rfl,fun b => ?_⟩
      show (List.range' h.next (g'.next - h.next)).contains b=false
      rw [hl];rfl
     ·simp only [N2,N8,kN] at hb
      exact .inr hb
     ·simp only [N2,NP,kN] at hb
      rcases still with e | ⟨ob,e⟩
      ·rw [e]
      ·rw [e,za.wT]
       split
       ·rename_i eb
        exact absurd ⟨by rw [eb];exact NG _,by rw [eb,e];exact N0 _⟩ hb
       ·rfl
     ·simp only [N2,N8,kN] at hb
      exact absurd hlt (by show ¬ b < h.next;omega)
     ·rw [VU]
      simp only [N2,N8]
     ·intro b o' hb
      rw [VU] at hb
      split at hb
      ·rename_i hm
       exact (kN.1 hm).2
      ·exact NH (F.wf b o' hb) hn
   ·
    rename_i hnc
    split at he
    case h_2=>cases he
    rename_i v g' yz
    simp only [Nz,NB] at he
    obtain ⟨rfl,rfl⟩:=he
    obtain ⟨af,still⟩:=Zi yz
    generalize hbs:EK s o h=bs at *
    have hn:h.next<=g'.next:=af.next
    have hmemtc:∀ b,b ∈ (cond (Z4 o.op) (bs ++ List.range' h.next (g'.next - h.next)) (List.range' h.next (g'.next - h.next))) ↔ (Z4 o.op=true/\b ∈ bs)\/(h.next<=b/\b < g'.next):=by
     intro b
     cases Z4 o.op with
     | true=>simp only [NR,Om,kN,true_and]
     | false=>simp only [N1,kN,On,false_and,false_or]
    generalize htcl:(cond (Z4 o.op) (bs ++ List.range' h.next (g'.next - h.next)) (List.range' h.next (g'.next - h.next)))=ri at *
    have hnew:∀ b,¬ (h.next<=b/\b < g'.next)->b ∉ bs\/Z4 o.op=false->g'.get b=(h.pick bs).get b:=by
     intro b hb hor
     cases hwr:Z4 o.op with
     | false=>
       rcases still hwr with e | ⟨ob,e⟩
       ·rw [e]
       ·rw [e,za.wT]
        split
        ·rename_i eb
         exact absurd ⟨by rw [eb];exact NG _,by rw [eb,e];exact N0 _⟩ hb
        ·rfl
     | true=>
       rcases hor with hor | hor
       ·have e0:(h.pick bs).get b=none:=by rw [uk,NJ hor]
        rw [e0]
        cases hh:g'.get b with
        | none=>rfl
        | some o'=>
          rcases af.alive b o' hh with h2 | h2
          ·exact absurd e0 h2
          ·exact absurd h2 hb
       ·rw [hwr] at hor;cases hor
    have hro:g'.ro=h.ro:=af.ro
    refine ⟨rfl,rfl,⟨fun _ b=>by simp,fun _ _ _=>trivial,fun hl => ?_,fun _ b hb=>by simpa using hb⟩,⟨ho,F.env,F.size,fun b => ?_,F.ro,F.next,F.nA,hn,.inr ⟨hw,.inl yz⟩,fun d hd=>by rw [<- F.size];exact hput d hd,fun b hb => ?_,fun b hb => ?_,fun b o' hb hlt hg => ?_⟩,fun b => ?_,rfl,hn,NG _,?_⟩
    ·simp only [ND,List.isEmpty_iff] at hl
     obtain ⟨e1,e2⟩:=hl
     subst e1 e2
     exact ⟨fun b=>rfl,fun b=>rfl⟩
    ·rw [uk]
     simp only [N2,N8]
     split
     ·exact F.heap b
     ·rfl
    ·simp only [N2,N8] at hb ⊢
     rcases (hmemtc b).1 hb with h2 | h2
     ·exact .inl h2.2
     ·exact .inr h2
    ·simp only [N2,NP] at hb
     have hb2:=fun hc=>hb ((hmemtc b).2 hc)
     refine hnew b (fun hc=>hb2 (.inr hc)) ?_
     cases hwr:Z4 o.op with
     | false=>exact .inr rfl
     | true=>exact .inl (fun hc=>hb2 (.inl ⟨hwr,hc⟩))
    ·rcases af.alive b o' hg with h2 | ⟨h2,_⟩
     ·exact h2
     ·exact absurd hlt (by show ¬ b < (h.pick bs).next;omega)
    ·rw [VU]
     simp only [N2,N8]
    ·intro b o' hb
     rw [VU] at hb
     split at hb
     ·rcases af.alive b o' hb with h2 | ⟨_,h2⟩
      ·rw [uk] at h2
       split at h2
       ·obtain ⟨o2,ho2⟩:∃ o,h.get b=some o:=by cases hh:h.get b with | none=>exact absurd hh h2 | some o=>exact ⟨o,rfl⟩
        exact NH (F.wf b o2 ho2) hn
       ·exact absurd rfl h2
      ·exact h2
     ·exact NH (F.wf b o' hb) hn
end
noncomputable section
variable {P:Program} {cls:List Nat}
theorem uc {α:Type} {A A1 A2:List α} {y r:α} (e:A ++ [y]=A1 ++ r :: A2):(A2 = []/\A1=A/\r=y) \/ ∃ A3,A2=A3 ++ [y]/\A=A1 ++ r :: A3:=by
 rcases List.eq_nil_or_concat A2 with h | ⟨A3,z,h⟩
 ·subst h
  have:=List.append_inj' e rfl
  simp at this
  exact .inl ⟨rfl,this.1.symm,this.2.symm⟩
 ·subst h
  rw [List.concat_eq_append] at *
  have e2:A ++ [y]=(A1 ++ r :: A3) ++ [z]:=by rw [e];simp
  have:=List.append_inj' e2 rfl
  simp at this
  exact .inr ⟨A3,by rw [this.2],this.1⟩
theorem iG {rec:ZK} (S:Sound P rec) (hF:Frames rec) (hC:jO P cls=true) {ops:Array Oper} {s0:Env} {h0:za}:∀ (l:List Oper) (i:Nat) (ms:List Nat) (recs:List bm) (s:Env) (h:za) {s':Env} {h':za},
  ops.toList.drop i=l->i<=ops.size->Qf ops ms->ms.length=i->ud P ops s0 h0 (recs.map (·.r)).reverse i s h->(∀ x,x ∈ recs->Mr x)->ZD ops l i ms (recs.map fun x=>(x.r.j,x.r.o))=true->WZ P cls rec ops l i ms recs s h=some (s',h') ->
  ∃ A,ud P ops s0 h0 A ops.size s' h'
 | [],i,ms,recs,s,h,s',h',hl,hle,hm,hml,F,hok,hst,he=>by
   simp only [WZ,Nz,NB] at he
   obtain ⟨rfl,rfl⟩:=he
   have:i=ops.size:=by
    have:=congrArg List.length hl
    simp at this
    omega
   subst this
   exact ⟨_,F⟩
 | o :: os,i,ms,recs,s,h,s',h',hl,hle,hm,hml,F,hok,hst,he=>by
   have ho:ops[i]? = some o:=by
    have:=congrArg (fun l=>l[0]?) hl
    simp only [Od,NV] at this
    simpa using this
   have hlt:i < ops.size:=by
    rcases NZ i ops.size with h | h
    ·exact h
    ·rw [N3 h] at ho;cases ho
   have hl':ops.toList.drop (i + 1)=os:=by rw [<- PG,hl];rfl
   simp only [WZ] at he
   simp only [ZD,ND] at hst
   obtain ⟨⟨hedge,hslots⟩,hst⟩:=hst
   split at he
   case h_2=>cases he
   rename_i y h1 yz
   obtain ⟨hind,he⟩:=zn he
   split at he
   case h_2=>cases he
   rename_i s1 hp
   have hput:∀ d,o.dst=some d->d < s.size:=by
    intro d hd
    rw [hd] at hp
    simp only [Env.put] at hp
    obtain ⟨hb,_⟩:=zn hp
    simpa [Of] using hb
   obtain ⟨hj,hyo,hfok,htold,hheap,hro,hnx,hyn,hwf⟩:=Ca S hF hC F ho hput yz
   have hs1:∀ t,s1.get t=if o.dst=some t then y.r.v else s.get t:=by
    intro t
    cases hd:o.dst with
    | none=>rw [hd] at hp;simp only [Env.put,Nz] at hp;subst hp;simp
    | some d=>
      rw [hd] at hp
      simp only [Env.put] at hp
      obtain ⟨_,hp⟩:=zn hp
      simp only [Nz] at hp
      subst hp
      rw [Env.yj]
      by_cases e:t=d
      ·subst e;simp
      ·rw [NJ e,NJ (by simp only [Nz];exact fun h=>e h.symm)]
   have hs1s:s1.size=s.size:=by
    cases hd:o.dst with
    | none=>rw [hd] at hp;simp only [Env.put,Nz] at hp;subst hp;rfl
    | some d=>
      rw [hd] at hp
      simp only [Env.put] at hp
      obtain ⟨_,hp⟩:=zn hp
      simp only [Nz] at hp
      subst hp;rfl
   have hrev:(List.map (·.r) (y :: recs)).reverse=(recs.map (·.r)).reverse ++ [y.r]:=by simp
   refine iG S hF hC os (i + 1) (ms ++ [yN ms o]) (y :: recs) s1 h1 hl' hlt (XC hm hml ho) (by simp [hml]) ?_ (fun x hx => ?_) (by simpa [hj,hyo] using hst) he
   ·rw [hrev]
    refine ⟨?_,?_,hs1s.trans F.size,?_,hro.trans F.ro,Oc F.next hnx,?_,hwf,?_,?_,?_⟩
    ·rw [Ou,F.js,List.range_succ];simp [hj]
    ·intro t
     rw [hs1,Ur,hyo,F.env]
    ·intro b
     rw [hheap,K9,F.heap]
    ·intro x hx
     rcases Om.1 hx with hx | hx
     ·exact Oc (F.nA x hx) hnx
     ·simp only [N7] at hx;subst hx;exact hyn
    ·intro A1 r A2 e
     rcases uc e with ⟨_,rfl,rfl⟩ | ⟨A3,_,e3⟩
     ·exact htold
     ·exact F.told A1 r A3 e3
    ·intro A1 r A2 e ed hed hb
     rcases uc e with ⟨_,rfl,rfl⟩ | ⟨A3,_,e3⟩
     ·rw [hyo] at hed
      simp only [NY,Og,NN,Of] at hedge
      rcases hedge ed (by simpa using hed) with h2 | h2
      ·rw [hb] at h2;cases h2
      ·have:ed.on ∈ (recs.map (·.r)).reverse.map (·.j):=by rw [F.js];exact ON.2 h2
       obtain ⟨x,hx,hxj⟩:=OJ.1 this
       exact ⟨x,hx,hxj⟩
     ·exact F.X9 A1 r A3 e3 ed hed hb
    ·intro A1 x A2 z A3 e
     have e':(recs.map (·.r)).reverse ++ [y.r]=(A1 ++ x :: A2) ++ z :: A3:=by rw [e];simp
     rcases uc e' with ⟨_,e1,rfl⟩ | ⟨A4,_,e3⟩
     ·have hxm:x ∈ (recs.map (·.r)).reverse:=by rw [<- e1];simp
      rw [List.mem_reverse,OJ] at hxm
      obtain ⟨fx,hfx,rfl⟩:=hxm
      simp only [NY,Og] at hind hslots
      rcases hslots (fx.r.j,fx.r.o) (OJ.2 ⟨fx,hfx,rfl⟩) with h2 | h2
      ·rw [hj];exact .inl (uX hm ho h2)
      ·rw [<- hyo] at h2
       rcases hind with h3 | h3
       ·exact .inr (Aj (hok fx hfx) hfok h2 (.inl h3))
       ·rcases h3 fx hfx with h4 | h4
        ·exact .inr (Aj (hok fx hfx) hfok h2 (.inr h4))
        ·rw [hj];exact .inl (uX hm ho h4)
     ·exact F.apart A1 x A2 z A4 (by rw [e3];simp)
   ·rcases Ox.1 hx with rfl | hx
    ·exact hfok
    ·exact hok x hx
theorem sd {rec:ZK} (S:Sound P rec) (hF:Frames rec) (hC:jO P cls=true) (hmix:P.follows .mixedOrders=true) {rd:Option Nat} {id:Nat} {ops:Array Oper} {s s':Env} {h h':za}
  (hst:ZD ops ops.toList 0 [] []=true) (he:WZ P cls rec ops ops.toList 0 [] [] s h=some (s',h')):T P rd (.region id ops true) s h (fun e1 s1 h1=>e1 = .normal/\s1=s'/\h1=h'):=by
 intro ρ w tm ds hr
 have F0:ud P ops s h ([]:List yr) 0 s h:=⟨rfl,fun t=>rfl,rfl,fun b=>rfl,rfl,NG _,fun x hx=>(by cases hx),fun b o hb=>hr.Vn b o hb,
  fun A1 r A2 e=>by simp at e,fun A1 r A2 e=>by simp at e,fun A1 x A2 y A3 e=>by simp at e⟩
 obtain ⟨A,F⟩:=iG S hF hC ops.toList 0 [] [] s h rfl (Oe _) (fun k q hq=>by simp at hq) rfl F0 (fun x hx=>(by cases hx)) hst he
 have V:Valid P ops s h A:=⟨by rw [F.js];exact List.nodup_range,fun i hi=>by
   have:i ∈ A.map (·.j):=by rw [F.js];exact ON.2 hi
   obtain ⟨r,hr,hj⟩:=OJ.1 this
   exact ⟨r,hr,hj⟩,F.told,F.X9,F.apart⟩
 exact Wo hmix V F.env F.size F.heap F.ro F.next F.nA ⟨rfl,rfl,rfl⟩ ρ w tm ds hr
theorem DV {rec:ZK} (hF:Frames rec) {g:FuncId} {args:List Value} {h h':za} {v:Value} (he:oO cls rec g args h=some (v,h')):AF h h':=by
 unfold oO at he
 split at he
 ·split at he
  ·rename_i hrec
   simp only [Nz,NB] at he
   obtain ⟨_,rfl⟩:=he
   exact hF _ _ _ _ hrec
  ·cases he
 ·split at he
  ·obtain ⟨_,he⟩:=zn he
   simp only [Nz,NB] at he
   obtain ⟨_,rfl⟩:=he
   exact .refl _
  ·cases he
 ·split at he
  ·rename_i hrec
   simp only [Nz,NB] at he
   obtain ⟨_,rfl⟩:=he
   exact .wU (hF _ _ _ _ hrec).lock.1
  ·cases he
 ·cases he
theorem CB {rec:ZK} (hF:Frames rec) {L:Nat} {args:List Value} {h h':za} {v:Value} (he:fF rec L args h=some (v,h')):AF h h':=by
 unfold fF at he
 split at he
 case h_2=>cases he
 rename_i A hg
 split at he
 case h_2=>cases he
 split at he
 case h_2=>cases he
 rename_i s1 h1 hrec
 split at he
 case h_2=>cases he
 rename_i A1 g1
 obtain ⟨_,he⟩:=zn he
 split at he
 case h_2=>cases he
 rename_i e s2 h2 hrec2
 split at he
 case h_2=>cases he
 rename_i A2 g2
 obtain ⟨_,he⟩:=zn he
 simp only [Nz,NB] at he
 obtain ⟨rfl,rfl⟩:=he
 exact (((hF _ _ _ _ hrec).trans (.XV g1 _)).trans (hF _ _ _ _ hrec2)).trans (.XV g2 _)
theorem CA {rec:ZK} (hF:Frames rec) {rd:Option Nat} {f:Option Value} {params:Array Tmp} {as bd:Code} {s:Env} {h h':za} {e:Ex} (he:fE cls rec rd f params as bd s h=some (e,h')):AF h h':=by
 unfold fE at he
 split at he
 case h_2=>cases he
 obtain ⟨_,he⟩:=zn he
 split at he
 case h_2=>cases he
 rename_i v h1 hrec
 split at he
 case h_2=>cases he
 rename_i A hA
 obtain ⟨_,he⟩:=zn he
 split at he
 case h_2=>cases he
 simp only [Nz,NB] at he
 obtain ⟨_,rfl⟩:=he
 exact ((AF.push _ _).trans (hF _ _ _ _ hrec)).trans (.XV hA _)
theorem Cc {rec:ZK} (hF:Frames rec) {s:Env} {o:Oper} {h h':za} {v:Value} (he:evalOp P cls rec s o h=some (v,h')):AF h h':=by
 unfold evalOp at he
 split at he
 ·split at he
  ·rename_i g fa fc vs _ _
   cases hk:Nat.beq (cls.getD g 0) 0 with
   | true=>
     rw [hk] at he
     simp only [NR] at he
     exact (ZS he).af
   | false=>
     rw [hk] at he
     simp only [N1] at he
     exact DV hF he
  ·obtain ⟨_,he⟩:=zn he
   exact CB hF he
  ·cases he
 ·exact (Zi he).1
theorem J4 {rec:ZK} (hF:Frames rec) {ops:Array Oper}:∀ (l:List Oper) {s s':Env} {h h':za},Vc P cls rec ops l s h=some (s',h')->AF h h'
 | [],s,s',h,h',he=>by
   simp only [Vc,Nz,NB] at he
   obtain ⟨_,rfl⟩:=he
   exact .refl _
 | o :: os,s,s',h,h',he=>by
   simp only [Vc] at he
   cases hw:yi ops s o with
   | false=>
     rw [hw] at he
     simp only [N1] at he
     split at he
     ·exact J4 hF os he
     ·cases he
   | true=>
     rw [hw] at he
     simp only [NR] at he
     split at he
     ·rename_i hev
      split at he
      ·exact (Cc hF hev).trans (J4 hF os he)
      ·cases he
     ·cases he
theorem tU {h g:za} {l:List Nat} (hn:h.next<=g.next) (hl:∀ b,b ∈ l->∀ o,g.get b=some o->h.get b ≠ none\/(h.next<=b/\b < g.next)):AF h (h.F7 g l):=⟨hn,rfl,fun b o hb=>by
 rw [VU] at hb
 split at hb
 ·rename_i hm;exact hl b hm o hb
 ·exact .inl (by rw [hb];simp)⟩
theorem B9 {rec:ZK} (hF:Frames rec) {ops:Array Oper} {recs:List bm} {mask i:Nat} {o:Oper} {os:List Oper} {s:Env} {h h1:za} {y:bm} (he:eH P cls rec ops recs mask i os o s h=some (y,h1)):AF h h1:=by
 unfold eH at he
 cases hw:yi ops s o with
 | false=>
   rw [hw] at he
   simp only [N1,Nz,NB] at he
   obtain ⟨_,rfl⟩:=he
   exact .refl _
 | true=>
   rw [hw] at he
   simp only [NR] at he
   split at he
   ·split at he
    case h_2=>cases he
    split at he
    ·split at he
     case h_2=>cases he
     rename_i hrec
     simp only [Nz,NB] at he
     obtain ⟨_,rfl⟩:=he
     have af:=hF _ _ _ _ hrec
     refine ⟨af.next,af.ro,fun b o' hb => ?_⟩
     rw [QN] at hb
     split at hb
     ·exact .inl (by rw [hb];simp)
     ·rcases af.alive b o' hb with h2 | h2
      ·rw [Zy] at h2
       split at h2
       ·exact absurd rfl h2
       ·exact .inl h2
      ·exact .inr h2
    ·split at he
     case h_2=>cases he
     obtain ⟨_,he⟩:=zn he
     simp only [Nz,NB] at he
     obtain ⟨_,rfl⟩:=he
     exact .refl _
    ·split at he
     case h_2=>cases he
     rename_i hrec
     simp only [Nz,NB] at he
     obtain ⟨_,rfl⟩:=he
     have:=(hF _ _ _ _ hrec).lock.1
     exact .wU this
    ·split at he
     case h_2=>cases he
     rename_i v g' yz
     simp only [Nz,NB] at he
     obtain ⟨_,rfl⟩:=he
     have af:=(ZS yz).af
     refine tU af.next (fun b _ o' hb => ?_)
     rcases af.alive b o' hb with h2 | h2
     ·rw [uk] at h2
      split at h2
      ·exact .inl h2
      ·exact absurd rfl h2
     ·exact .inr h2
   ·split at he
    case h_2=>cases he
    rename_i v g' yz
    simp only [Nz,NB] at he
    obtain ⟨_,rfl⟩:=he
    have af:=(Zi yz).1
    refine tU af.next (fun b _ o' hb => ?_)
    rcases af.alive b o' hb with h2 | h2
    ·rw [uk] at h2
     split at h2
     ·exact .inl h2
     ·exact absurd rfl h2
    ·exact .inr h2
theorem iF {rec:ZK} (hF:Frames rec) {ops:Array Oper}:∀ (l:List Oper) (i:Nat) (ms:List Nat) (recs:List bm) {s s':Env} {h h':za},WZ P cls rec ops l i ms recs s h=some (s',h')->AF h h'
 | [],i,ms,recs,s,s',h,h',he=>by
   simp only [WZ,Nz,NB] at he
   obtain ⟨_,rfl⟩:=he
   exact .refl _
 | o :: os,i,ms,recs,s,s',h,h',he=>by
   simp only [WZ] at he
   split at he
   case h_2=>cases he
   rename_i y h1 yz
   obtain ⟨_,he⟩:=zn he
   split at he
   case h_2=>cases he
   exact (B9 hF yz).trans (iF hF os _ _ _ he)
theorem oN {rec:ZK} (hF:Frames rec):Frames (body P cls rec):=by
 intro t h o h' he
 cases t with
 | call f args=>
   simp only [body] at he
   split at he
   case h_1=>cases he
   split at he
   case h_1=>cases he
   split at he
   ·rename_i hrec
    split at he
    ·simp only [Nz,NB] at he;obtain ⟨_,rfl⟩:=he;exact hF _ _ _ _ hrec
    ·cases he
   ·rename_i hrec
    split at he
    ·simp only [Nz,NB] at he;obtain ⟨_,rfl⟩:=he;exact hF _ _ _ _ hrec
    ·cases he
   ·cases he
 | code rd c s=>
   cases c <;> simp only [body] at he
   case skip=>simp only [Nz,NB] at he;obtain ⟨_,rfl⟩:=he;exact .refl _
   case label=>simp only [Nz,NB] at he;obtain ⟨_,rfl⟩:=he;exact .refl _
   case exit=>simp only [Nz,NB] at he;obtain ⟨_,rfl⟩:=he;exact .refl _
   case ret=>simp only [Nz,NB] at he;obtain ⟨_,rfl⟩:=he;exact .refl _
   case region id ops draw=>
    cases draw with
    | true=>
      simp only [NR] at he
      obtain ⟨_,he⟩:=zn he
      split at he
      ·rename_i hd
       simp only [Nz,NB] at he;obtain ⟨_,rfl⟩:=he
       exact iF hF _ _ _ _ hd
      ·cases he
    | false=>
      simp only [N1] at he
      split at he
      ·rename_i hd
       simp only [Nz,NB] at he;obtain ⟨_,rfl⟩:=he
       exact J4 hF _ hd
      ·cases he
   case seq a b=>
    split at he
    ·rename_i hrec;exact (hF _ _ _ _ hrec).trans (hF _ _ _ _ he)
    ·exact hF _ _ _ _ he
   case cond x a b=>
    split at he
    ·exact hF _ _ _ _ he
    ·exact hF _ _ _ _ he
    ·cases he
   case block id a=>
    split at he
    ·rename_i id' s1 h1 hrec
     cases hb:Nat.beq id' id with
     | true=>rw [hb] at he;simp only [NR,Nz,NB] at he;obtain ⟨_,rfl⟩:=he;exact hF _ _ _ _ hrec
     | false=>rw [hb] at he;simp only [N1,Nz,NB] at he;obtain ⟨_,rfl⟩:=he;exact hF _ _ _ _ hrec
    ·exact hF _ _ _ _ he
   case scope a=>exact hF _ _ _ _ he
   case loop a=>
    split at he
    ·rename_i hrec;exact (hF _ _ _ _ hrec).trans (hF _ _ _ _ he)
    ·exact hF _ _ _ _ he
   case rangeFunc f params as bd=>
    split at he
    ·rename_i hr
     simp only [Nz,NB] at he
     obtain ⟨_,rfl⟩:=he
     exact CA hF hr
    ·cases he
   all_goals cases he
theorem r7 {rec:ZK} (S:Sound P rec) (hF:Frames rec) (hC:jO P cls=true) (hmix:P.follows .mixedOrders=true):Sound P (body P cls rec):=by
 refine ⟨?_,?_,?_,?_⟩
 ·intro rd c s h e s' h' he
  cases c <;> simp only [body] at he
  case skip=>simp only [Nz,NB,Out.ex.injEq] at he;obtain ⟨⟨rfl,rfl⟩,rfl⟩:=he;exact C0 ⟨rfl,rfl,rfl⟩
  case label=>simp only [Nz,NB,Out.ex.injEq] at he;obtain ⟨⟨rfl,rfl⟩,rfl⟩:=he;exact tq ⟨rfl,rfl,rfl⟩
  case exit=>simp only [Nz,NB,Out.ex.injEq] at he;obtain ⟨⟨rfl,rfl⟩,rfl⟩:=he;exact CZ ⟨rfl,rfl,rfl⟩
  case ret=>simp only [Nz,NB,Out.ex.injEq] at he;obtain ⟨⟨rfl,rfl⟩,rfl⟩:=he;exact GF ⟨rfl,rfl,rfl⟩
  case region id ops draw=>
   cases draw with
   | true=>
     simp only [NR] at he
     obtain ⟨hst,he⟩:=zn he
     split at he
     ·rename_i hd
      simp only [Nz,NB,Out.ex.injEq] at he
      obtain ⟨⟨rfl,rfl⟩,rfl⟩:=he
      exact sd S hF hC hmix hst hd
     ·cases he
   | false=>
     simp only [N1] at he
     split at he
     ·rename_i hd
      simp only [Nz,NB,Out.ex.injEq] at he
      obtain ⟨⟨rfl,rfl⟩,rfl⟩:=he
      refine mR ?_
      have:=Vd S hC ops.toList 0 rfl hd
      rw [OI,<- List.range_eq_range'] at this
      intro ρ w tm ds hr hs b k cs
      obtain ⟨s1,h1,ρ1,w1,tm1,⟨q1,q2⟩,r⟩:=this ρ w tm ds hr hs b k cs
      exact ⟨s1,h1,ρ1,w1,tm1,⟨rfl,q1,q2⟩,r⟩
     ·cases he
  case seq a b=>
   refine tu ?_
   split at he
   ·rename_i s1 h1 hrec
    refine (S.code _ _ _ _ _ _ _ hrec).mono ?_
    rintro e1 s2 h2 ⟨rfl,rfl,rfl⟩
    exact S.code _ _ _ _ _ _ _ he
   ·rename_i hne
    refine (S.code _ _ _ _ _ _ _ he).mono ?_
    rintro e1 s2 h2 ⟨rfl,rfl,rfl⟩
    cases e1 with
    | normal=>exact (hne _ _ he).elim
    | exit id=>exact ⟨rfl,rfl,rfl⟩
    | ret=>exact ⟨rfl,rfl,rfl⟩
  case cond x a b=>
   split at he
   ·rename_i hx;exact lq hx (by rw [NK rfl];exact S.code _ _ _ _ _ _ _ he)
   ·rename_i hx;exact lq hx (by rw [NJ (by decide)];exact S.code _ _ _ _ _ _ _ he)
   ·cases he
  case block id a=>
   refine Q3 ?_
   split at he
   ·rename_i id' s1 h1 hrec
    refine (S.code _ _ _ _ _ _ _ hrec).mono ?_
    rintro e1 s2 h2 ⟨rfl,rfl,rfl⟩
    cases hb:Nat.beq id' id with
    | true=>
      rw [hb] at he
      simp only [NR,Nz,NB,Out.ex.injEq] at he
      obtain ⟨⟨rfl,rfl⟩,rfl⟩:=he
      rw [NL hb,NK rfl]
      exact ⟨rfl,rfl,rfl⟩
    | false=>
      rw [hb] at he
      simp only [N1,Nz,NB,Out.ex.injEq] at he
      obtain ⟨⟨rfl,rfl⟩,rfl⟩:=he
      rw [NJ (by
       intro hc
       cases hc
       rw [Pq] at hb;cases hb)]
      exact ⟨rfl,rfl,rfl⟩
   ·rename_i hne
    refine (S.code _ _ _ _ _ _ _ he).mono ?_
    rintro e1 s2 h2 ⟨rfl,rfl,rfl⟩
    cases e1 with
    | normal=>rw [NJ (by simp)];exact ⟨rfl,rfl,rfl⟩
    | exit id'=>exact (hne _ _ _ he).elim
    | ret=>rw [NJ (by simp)];exact ⟨rfl,rfl,rfl⟩
  case scope a=>exact tt (S.code _ _ _ _ _ _ _ he)
  case loop a=>
   refine Xm ?_
   split at he
   ·rename_i s1 h1 hrec
    refine (S.code _ _ _ _ _ _ _ hrec).mono ?_
    rintro e1 s2 h2 ⟨rfl,rfl,rfl⟩
    exact S.code _ _ _ _ _ _ _ he
   ·rename_i hne
    refine (S.code _ _ _ _ _ _ _ he).mono ?_
    rintro e1 s2 h2 ⟨rfl,rfl,rfl⟩
    cases e1 with
    | normal=>exact (hne _ _ he).elim
    | exit id=>exact ⟨rfl,rfl,rfl⟩
    | ret=>exact ⟨rfl,rfl,rfl⟩
  case rangeFunc f params as bd=>
   split at he
   ·rename_i hr
    simp only [Nz,NB,Out.ex.injEq] at he
    obtain ⟨⟨rfl,rfl⟩,rfl⟩:=he
    exact mA S hC hr
   ·cases he
  all_goals cases he
 ·intro f args h v h' he
  simp only [body] at he
  split at he
  case h_1=>cases he
  rename_i fn hfn
  split at he
  case h_1=>cases he
  rename_i c hc
  have fin:∀ e s1 h1,(e = .normal\/e = .ret)->rec (.code none c (Env.enter args fn.ntmps)) h=some (.ex e s1,h1)->(match uK P s1 h1 fn.results.toList with | some vs=>some (Out.val (jM vs),h1) | none=>none)=some (.val v,h') ->
    TC P f args h (fun v1 h1=>v1=v/\h1=h'):=by
   intro e s1 h1 hee hrec hres
   split at hres
   ·rename_i vs hvs
    simp only [Nz,NB,Out.val.injEq] at hres
    obtain ⟨rfl,rfl⟩:=hres
    refine tj hfn hc ((S.code _ _ _ _ _ _ _ hrec).mono ?_)
    rintro e1 s2 h2 ⟨rfl,rfl,rfl⟩
    exact ⟨hee,vs,hvs,rfl,rfl⟩
   ·cases hres
  split at he
  ·rename_i s1 h1 hrec;exact fin _ s1 h1 (.inl rfl) hrec he
  ·rename_i s1 h1 hrec;exact fin _ s1 h1 (.inr rfl) hrec he
  ·cases he
 ·intro rd c s h o h' he
  cases c <;> simp only [body] at he
  case skip=>simp only [Nz,NB] at he;obtain ⟨rfl,_⟩:=he;exact ⟨_,_,rfl⟩
  case label=>simp only [Nz,NB] at he;obtain ⟨rfl,_⟩:=he;exact ⟨_,_,rfl⟩
  case exit=>simp only [Nz,NB] at he;obtain ⟨rfl,_⟩:=he;exact ⟨_,_,rfl⟩
  case ret=>simp only [Nz,NB] at he;obtain ⟨rfl,_⟩:=he;exact ⟨_,_,rfl⟩
  case region id ops draw=>
   cases draw with
   | true=>
     simp only [NR] at he
     obtain ⟨_,he⟩:=zn he
     split at he
     ·simp only [Nz,NB] at he;obtain ⟨rfl,_⟩:=he;exact ⟨_,_,rfl⟩
     ·cases he
   | false=>
     simp only [N1] at he
     split at he
     ·simp only [Nz,NB] at he;obtain ⟨rfl,_⟩:=he;exact ⟨_,_,rfl⟩
     ·cases he
  case seq a b=>
   split at he
   ·exact S.kind _ _ _ _ _ _ he
   ·exact S.kind _ _ _ _ _ _ he
  case cond x a b=>
   split at he
   ·exact S.kind _ _ _ _ _ _ he
   ·exact S.kind _ _ _ _ _ _ he
   ·cases he
  case block id a=>
   split at he
   ·rename_i id' s1 h1 hrec
    cases hb:Nat.beq id' id with
    | true=>rw [hb] at he;simp only [NR,Nz,NB] at he;obtain ⟨rfl,_⟩:=he;exact ⟨_,_,rfl⟩
    | false=>rw [hb] at he;simp only [N1,Nz,NB] at he;obtain ⟨rfl,_⟩:=he;exact ⟨_,_,rfl⟩
   ·exact S.kind _ _ _ _ _ _ he
  case scope a=>exact S.kind _ _ _ _ _ _ he
  case loop a=>
   split at he
   ·exact S.kind _ _ _ _ _ _ he
   ·exact S.kind _ _ _ _ _ _ he
  case rangeFunc f params as bd=>
   split at he
   ·simp only [Nz,NB] at he;obtain ⟨rfl,_⟩:=he;exact ⟨_,_,rfl⟩
   ·cases he
  all_goals cases he
 ·intro f args h o h' he
  simp only [body] at he
  split at he
  case h_1=>cases he
  split at he
  case h_1=>cases he
  split at he
  ·split at he
   ·simp only [Nz,NB] at he;obtain ⟨rfl,_⟩:=he;exact ⟨_,rfl⟩
   ·cases he
  ·split at he
   ·simp only [Nz,NB] at he;obtain ⟨rfl,_⟩:=he;exact ⟨_,rfl⟩
   ·cases he
  ·cases he
theorem p7 (hC:jO P cls=true) (hmix:P.follows .mixedOrders=true):∀ n,Sound P (run P cls n)/\Frames (run P cls n)
 | 0=>⟨⟨fun rd c s h e s' h' he=>(by cases he),fun f args h v h' he=>(by cases he),fun rd c s h o h' he=>(by cases he),fun f args h o h' he=>(by cases he)⟩,fun t h o h' he=>(by cases he)⟩
 | n + 1=>by
   obtain ⟨S,F⟩:=p7 hC hmix n
   exact ⟨r7 S F hC hmix,oN F⟩
theorem A6 (hC:jO P cls=true) (hmix:P.follows .mixedOrders=true) {n:Nat} {f:FuncId} {args:List Value} {h h':za} {v:Value} (he:run P cls n (.call f args) h=some (.val v,h')):TC P f args h (fun v1 h1=>v1=v/\h1=h') :=
 (p7 hC hmix n).1.call _ _ _ _ _ he
def mH (n:Nat) (tabs:List (Nat × List Value)):za:=⟨tabs.foldl (fun t x=>t.set x.1 (some (.tab x.2))) .e,n,n⟩
theorem QM {n:Nat} {tabs:List (Nat × List Value)} {b:Nat} {o:wi} (h:(mH n tabs).get b=some o):∃ c,(b,c) ∈ tabs/\o = .tab c:=by
 have key:∀ (l:List (Nat × List Value)) (t:Tr wi),(l.foldl (fun t x=>t.set x.1 (some (.tab x.2))) t).get b=some o->(∃ c,(b,c) ∈ l/\o = .tab c)\/t.get b=some o:=by
  intro l
  induction l with
  | nil=>intro t h;exact .inr h
  | cons x l ih=>
    intro t h
    rw [List.foldl_cons] at h
    rcases ih _ h with ⟨c,h1,h2⟩ | h1
    ·exact .inl ⟨c,by simp [h1],h2⟩
    ·rw [Tr.yj] at h1
     split at h1
     ·rename_i e
      simp only [Nz] at h1
      subst e
      exact .inl ⟨x.2,by simp,h1.symm⟩
     ·exact .inr h1
 rcases key tabs .e h with h1 | h1
 ·exact h1
 ·cases h1
def mO (w:World) (g:Nat) (c:List Value):Prop := ∃ cs t fz,w.heap[g]? = some (.cells cs t fz) /\ ∀ (i:Nat) x,c[i]? = some x->cs[i]? = some x
theorem sN (P:Program) (w:World) (n:Nat) (tabs:List (Nat × List Value)) (hn:P.globals.size<=n) (hg:∀ x,x ∈ tabs->x.1 < n/\x.2.all flat=true/\mO w x.1 x.2) :
  Rel P ⟨n,fun g=>some ⟨g,0,(match w.heap[g]? with | some (.cells cs _ _)=>cs.size | _=>0),0⟩⟩ (mH n tabs) w:=by
 refine ⟨rfl,NG _,fun b o h => ?_,fun b o h => ?_,fun b1 b2 o1 o2 p1 p2 h1 h2 m1 m2 e => ?_,hn,fun b pl _ h => ?_⟩
 ·obtain ⟨c,h1,_⟩:=QM h
  exact (hg _ h1).1
 ·obtain ⟨c,h1,rfl⟩:=QM h
  obtain ⟨_,h2,cs,t,fz,h3,h4⟩:=hg _ h1
  refine ⟨_,rfl,t,cs,fz,h3,by simp only [h3],⟨rfl,Nat.zero_mod _⟩,?_,fun e=>(by cases e),fun i x hx=>⟨x,by simpa using h4 i x hx,?_⟩⟩
  ·show 0 + c.length<=cs.size
   rcases NZ cs.size c.length with hl | hl
   ·have h5:=h4 cs.size _ (NC hl)
    simp at h5
   ·omega
  ·simp only [NY] at h2
   exact .of_flat _ (h2 x (NQ hx))
 ·simp only [Nz] at m1 m2
  subst m1 m2
  exact e
 ·simp only [Nz] at h
  subst h
  exact ⟨rfl,rfl⟩
theorem CG {ρ:yY} {v v':Value} (hv:J6 v=true) (hvr:zD ρ v v'):v'=v:=by
 cases v with
 | tuple a=>
   cases hvr with
   | tuple ha hr=>
     simp only [J6,NY] at hv
     congr 1
     apply Pn
     refine eY (by simpa using ha) (fun i x y hx hy => ?_)
     exact qh (hr i x y (by simpa using hx) (by simpa using hy)) (hv x (NQ hx))
 | _=>exact qh hvr hv
end
noncomputable section
variable {P:Program} {cls:List Nat}
structure Sub (h H:za):Prop where
 next:H.next=h.next
 ro:H.ro=h.ro
 get:∀ b o,H.get b=some o->h.get b=some o
theorem Rel.sub {ρ:yY} {h H:za} {w:World} (hr:Rel P ρ h w) (s:Sub h H):Rel P ρ H w :=
 ⟨hr.next.trans s.next.symm,by rw [s.ro,s.next];exact hr.ro,fun b o hb=>by rw [s.next];exact hr.Vn b o (s.get b o hb),fun b o hb=>by rw [s.ro];exact hr.ok b o (s.get b o hb),
  fun b1 b2 o1 o2 p1 p2 h1 h2=>hr.inj b1 b2 o1 o2 p1 p2 (s.get _ _ h1) (s.get _ _ h2),by rw [s.ro];exact hr.JO,hr.jV⟩
theorem Q2.sub {ρ:yY} {h H:za} (s:Sub h H) {c:Nat} (hm:Q2 ρ H c):Q2 ρ h c:=by
 obtain ⟨b,o,pl,hg,hro,hm,e⟩:=hm
 exact ⟨b,o,pl,s.get b o hg,by rw [<- s.ro];exact hro,hm,e⟩
theorem Step.sub {ρ ρ':yY} {h H h':za} {w w':World} (s:Sub h H) (st:Step P ρ H w ρ' h' w'):Step P ρ h w ρ' h' w' :=
 ⟨st.le,st.rel,st.ro.trans s.ro,st.os,st.tape,st.output,st.size,fun c hc hn=>st.frame c hc (fun hm=>hn (hm.sub s)),fun c hc hm=>(st.bt c hc hm).sub s⟩
def seen (k:Nat) (bs:List Nat):Option (Out × za)->Option (List Value × List (Option wi) × Nat × Nat × Nat)
 | some (.ex .normal s,h)=>some ((List.range k).map s.get,bs.map h.get,s.size,h.next,h.ro)
 | _=>none
end
noncomputable section
variable {P:Program} {cls:List Nat}
end
noncomputable section
open Go.ChangeShapes Go.WideShapes Go.ChangeAt Go.RowKit
variable {P:Program} {H:Type} {enc:TypeId × Value->H}
theorem post_of_below {f:Func} {s:ChangeSpec} {apart fresh handsOn again:Bool} {W W':World} {args:Array Value} {v:Value} {ds gs:List (DataW H)} {before pa pv:List MemPlace}
  (hW:DataW.Whole enc P f.params.toList s.vars apart W args.toList ds gs before)
  (hres:∀ (b:Nat) (sp:Nat->Bool) (hd:Bool),DataW.TrodAll enc P W' b sp hd f.resultTypes.toList (v.resultList f.resultTypes.size) (s.fn H (ds ++ gs)).results [])
  (hargs:∀ sp:Nat->Bool,(∀ p ∈ before,sp p.block=true)->DataW.TrodAll enc P W' 0 sp true f.params.toList args.toList (s.fn H (ds ++ gs)).args pa)
  (hvars:∀ sp:Nat->Bool,(∀ p ∈ before,sp p.block=true)->DataW.TrodVars enc P W' sp s.vars (s.fn H (ds ++ gs)).vars pv)
  (hps:before=pa ++ pv) (hb:Below W.heap.size W W')
  (hok:∀ (j:Nat) (t:TypeId) (r:Value),f.resultTypes[j]? = some t->(v.resultList f.resultTypes.size)[j]? = some r->Value.okWide P W' .any 0 t r) :
  s.post enc P f apart fresh handsOn again W args v W':=by
 have hold:∀ p ∈ before,(fun b=>decide (b < W.heap.size)) p.block=true:=fun p hp=>by simpa using hW.lt p hp
 refine ⟨ds,gs,before,[],pa,pv,hW,hres _ _ _,hargs _ hold,hvars _ hold,hb.frame _,fun _ => ?_⟩
 have hlt:∀ p ∈ before,p.block < W.heap.size:=fun p hp=>hW.lt p hp
 obtain ⟨_,_,_,_,_,hz,hn⟩:=hW
 refine ⟨hok,_,_,([] ++ pa) ++ pv,⟨[] ++ pa,pv,trodAll_append (hargs _ (fun _ _=>rfl)) (hres _ _ _),hvars _ (fun _ _=>rfl),rfl,?_,?_⟩,?_⟩
 ·intro b off hp
  have hp':MemPlace.cell b off ∈ before:=by rw [hps];simpa using hp
  rw [hb.frozen (p:=⟨b,off,none⟩) (hlt _ hp')]
  exact hz b off hp'
 ·intro ha
  have:=hn ha
  rw [hps] at this
  simpa using this
 ·intro p hp _
  rw [hps]
  simpa using hp
def Is:Option (Out × za)->Bool
 | some (.val (.bool b),_)=>b
 | _=>false
theorem Gb {x:Option (Out × za)} (h:Is x=true):∃ h',x=some (.val (.bool true),h'):=by
 unfold Is at h
 split at h
 ·subst h;exact ⟨_,rfl⟩
 ·cases h
end
noncomputable section
variable {P:Program}
theorem rD {f:FuncId} {v:Value} {m:Nat} {tabs:List (Nat × List Value)} (hv:J6 v=true) (hn:P.globals.size<=m) (hfl:∀ x,x ∈ tabs->x.1 < m/\x.1 < P.globals.size/\x.2.all flat=true) (ht:TC P f [] (mH m tabs) (fun v1 _=>v1=v)) {h:za}
  (hh:∀ x,x ∈ tabs->∃ c t,h.get x.1=some (.cells c t) /\ ∀ (i:Nat) y,x.2[i]? = some y->c[i]? = some y):TC P f [] h (fun v1 h1=>v1=v/\h1=h):=by
 intro ρ w cargs hr hvl
 have hT:∀ x,x ∈ tabs->x.1 < m/\x.2.all flat=true/\mO w x.1 x.2:=by
  intro x hx
  obtain ⟨f1,f2,f3⟩:=hfl x hx
  refine ⟨f1,f3,?_⟩
  obtain ⟨c,t,hc,hce⟩:=hh x hx
  obtain ⟨pl,hm,cs,fz,h1,h2,h3,h4,h5,h6⟩:=hr.ok x.1 _ hc
  obtain ⟨g1,g2⟩:=hr.jV x.1 pl f2 hm
  refine ⟨cs,t,fz,by rw [<- g1];exact h1,fun i y hy => ?_⟩
  obtain ⟨z,hz,hzz⟩:=h6 i y (hce i y hy)
  simp only [g2,OT] at hz
  rw [hz]
  simp only [NY] at f3
  rw [qh hzz (f3 y (NQ hy))]
 refine (ht _ w cargs (sN P w m tabs hn hT) ?_).mono fun e w' => ?_
 ·cases hvl.vR;exact .nil _
 rintro ⟨v1,v',h1,ρ',rfl,rfl,st,hvr⟩
 have hsame:∀ c,c < w.heap.size->w'.heap[c]? = w.heap[c]?:=fun c hc=>st.frame c hc (by
  rintro ⟨b,o,pl,hb,hro,_⟩
  obtain ⟨c',hc',_⟩:=QM hb
  have h1:=(hfl _ hc').1
  have h2:m<=b:=hro
  omega)
 exact ⟨v1,v',h,ρ,rfl,⟨rfl,rfl⟩,⟨yY.le_refl _,hr.grow hsame,rfl,st.os,st.tape,st.output,st.size,fun c hc _=>hsame c hc,fun c _ hm=>hm⟩,AO hvr hv ρ⟩
end
noncomputable section
variable {P:Program}
def Dy (n:Nat):Value->Value
 | .bool b => .bool b
 | .int k i => .int k i
 | .float k i => .float k i
 | .string s => .string s
 | .pointer none => .pointer none
 | .pointer (some ⟨b,off,none⟩)=>cond (Nat.blt b n) (.pointer (some ⟨b,off,none⟩)) bot
 | .slice none 0 0 => .slice none 0 0
 | .slice (some _) 0 0 => .slice (some ⟨0,0,none⟩) 0 0
 | .slice (some ⟨b,off,none⟩) l c=>cond (Nat.blt b n && Nat.ble l c) (.slice (some ⟨b,off,none⟩) l 0) bot
 | .nilFunc => .nilFunc
 | .nilIface => .nilIface
 | .map none => .map none
 | _=>bot
def sY (f:Nat->Option wi):Nat->Tr wi
 | 0 => .e
 | n + 1=>(sY f n).set n (f n)
theorem pc (f:Nat->Option wi) (n k:Nat):(sY f n).get k=if k < n then f k else none:=by
 induction n with
 | zero=>simp [sY]
 | succ n ih=>
   rw [sY,Tr.yj,ih]
   by_cases h:k=n
   ·subst h;rw [NK rfl,NK (by omega)]
   ·rw [NJ h]
    by_cases h2:k < n
    ·rw [NK h2,NK (by omega)]
    ·rw [NJ h2,NJ (by omega)]
def UE (P:Program) (w:World):yY:=⟨max w.heap.size P.globals.size + 1,fun b=>match w.heap[b]? with
 | some (.cells cs t _)=>some ⟨b,0,cs.size,P.cellsOf t⟩
 | _=>some ⟨b,0,0,1⟩⟩
theorem Jj (P:Program) (w:World) (b:Nat):∃ pl,(UE P w).m b=some pl/\pl.c=b/\pl.base=0:=by
 unfold UE
 simp only
 split
 ·exact ⟨_,rfl,rfl,rfl⟩
 ·exact ⟨_,rfl,rfl,rfl⟩
theorem Dz (P:Program) (w:World) {v:Value} (h:xp v=true):zD (UE P w) (Dy w.heap.size v) v:=by
 have un:(∀ b,v ≠ .bool b)->zD (UE P w) bot v:=fun hb => .mL (by
  cases v with
  | bool b=>exact absurd rfl (hb b)
  | agg _=>cases h
  | tuple _=>cases h
  | _=>rfl)
 have lt:∀ {b:Nat},Nat.blt b w.heap.size=true->b < (UE P w).next:=fun {b} hb=>by
  have h1:b < w.heap.size:=by simpa [Of] using hb
  show b < max w.heap.size P.globals.size + 1
  omega
 unfold Dy
 split
 ·exact .bool _
 ·exact .int _ _
 ·exact .float _ _
 ·exact .string _
 ·exact .ptrNil
 ·rename_i b off
  cases hb:Nat.blt b w.heap.size with
  | true=>
    obtain ⟨pl,hm,hc,h0⟩:=Jj P w b
    have:=zD.ptr (ρ:=UE P w) (off:=off) (lt hb) hm
    rw [hc,h0,OT] at this
    exact this
  | false=>exact un (fun b h=>by cases h)
 ·exact .sliceNil _
 ·exact .sliceOut (show 0 < max w.heap.size P.globals.size + 1 by omega) (by decide)
 ·rename_i b off l c hne
  cases hb:Nat.blt b w.heap.size && Nat.ble l c with
  | true=>
    obtain ⟨pl,hm,hc,h0⟩:=Jj P w b
    simp only [ND] at hb
    have:=zD.slice (ρ:=UE P w) (off:=off) (c:=0) (lt hb.1) hm (NW hb.2) (fun h=>absurd rfl h)
    rw [hc,h0,OT] at this
    exact this
  | false=>exact un (fun b h=>by cases h)
 ·exact .nilFunc
 ·exact .nilIface
 ·exact .mapNil
 ·rename_i h1 h2 h3 h4 h5 h6 h7 h8 h9 h10 h11 h12
  exact un (fun b h=>h1 b h)
theorem lE (P:Program) (w:World):∀ v:Value,∃ x,zD (UE P w) x v
 | .agg a=>by
   have h:∀ i:Fin a.size,∃ x,zD (UE P w) x a[i]:=fun i=>lE P w a[i]
   obtain ⟨f,hf⟩:=Classical.axiomOfChoice h
   refine ⟨.agg (Array.ofFn f),.agg (by simp) (fun i x y hx hy => ?_)⟩
   have hi:i < a.size:=by
    rcases NZ i a.size with q | q
    ·exact q
    ·rw [N3 q] at hy;cases hy
   rw [N4 hi] at hy
   simp only [Nz] at hy
   subst hy
   rw [N4 (by simpa using hi)] at hx
   simp only [Nz,Array.getElem_ofFn] at hx
   subst hx
   exact hf ⟨i,hi⟩
 | .tuple a=>by
   have h:∀ i:Fin a.size,∃ x,zD (UE P w) x a[i]:=fun i=>lE P w a[i]
   obtain ⟨f,hf⟩:=Classical.axiomOfChoice h
   refine ⟨.tuple (Array.ofFn f),.tuple (by simp) (fun i x y hx hy => ?_)⟩
   have hi:i < a.size:=by
    rcases NZ i a.size with q | q
    ·exact q
    ·rw [N3 q] at hy;cases hy
   rw [N4 hi] at hy
   simp only [Nz] at hy
   subst hy
   rw [N4 (by simpa using hi)] at hx
   simp only [Nz,Array.getElem_ofFn] at hx
   subst hx
   exact hf ⟨i,hi⟩
 | .bool b=>⟨_,.bool b⟩
 | .int _ _ | .float _ _ | .complex _ _ _ | .string _ | .pointer _ | .slice _ _ _ | .map _ | .nilFunc | .func _ _ _ | .nilIface | .iface _ _ | .chan _=>⟨bot,.mL rfl⟩
 termination_by v=>SizeOf.sizeOf v
 decreasing_by
  all_goals
   have:=Array.sizeOf_lt_of_mem (Array.getElem_mem i.2)
   simp only [Value.agg.sizeOf_spec,Value.tuple.sizeOf_spec]
   simp only [Fin.getElem_fin] at this ⊢
   omega
def X4 (P:Program) (w:World) (v:Value):Value:=if xp v=true then Dy w.heap.size v else Classical.choose (lE P w v)
theorem KL (P:Program) (w:World) (v:Value):zD (UE P w) (X4 P w v) v:=by
 unfold X4
 split
 ·rename_i h;exact Dz P w h
 ·exact Classical.choose_spec (lE P w v)
theorem Um {w:World} {v:Value} (h:xp v=true):X4 P w v=Dy w.heap.size v:=NK h
def Dx (P:Program) (w:World) (b:Nat):Option wi:=match w.heap[b]? with
 | some (.cells cs t _)=>some (.cells (cs.toList.map (X4 P w)) t)
 | _=>none
def absH (P:Program) (w:World):za:=⟨sY (Dx P w) w.heap.size,max w.heap.size P.globals.size + 1,max w.heap.size P.globals.size + 1⟩
theorem eR {w:World} {b:Nat} {o:wi} (h:(absH P w).get b=some o):b < w.heap.size /\ ∃ cs t fz,w.heap[b]? = some (.cells cs t fz)/\o = .cells (cs.toList.map (X4 P w)) t:=by
 have h2:(sY (Dx P w) w.heap.size).get b=some o:=h
 rw [pc] at h2
 split at h2
 case isFalse=>cases h2
 rename_i hb
 refine ⟨hb,?_⟩
 unfold Dx at h2
 split at h2
 ·rename_i cs t fz hw
  simp only [Nz] at h2
  exact ⟨cs,t,fz,hw,h2.symm⟩
 ·cases h2
theorem Dw {w:World} {b:Nat} {cs:Array Value} {t:TypeId} {fz:Nat × Nat} (h:w.heap[b]? = some (.cells cs t fz)):(absH P w).get b=some (.cells (cs.toList.map (X4 P w)) t):=by
 have hb:b < w.heap.size:=Zn h
 show (sY (Dx P w) w.heap.size).get b=_
 rw [pc,NK hb]
 unfold Dx
 rw [h]
theorem pX (P:Program) (w:World):Rel P (UE P w) (absH P w) w:=by
 refine ⟨rfl,NG _,fun b o h => ?_,fun b o h => ?_,fun b1 b2 o1 o2 p1 p2 _ _ h1 h2 e => ?_,OS (Nat.le_max_right _ _),fun b pl _ h => ?_⟩
 ·have:=(eR h).1
  show b < max w.heap.size P.globals.size + 1
  omega
 ·obtain ⟨hb,cs,t,fz,hw,rfl⟩:=eR h
  refine ⟨⟨b,0,cs.size,P.cellsOf t⟩,by simp only [UE,hw],?_⟩
  refine ⟨cs,fz,hw,rfl,⟨rfl,Nat.zero_mod _⟩,by simp,fun hd => ?_,fun i x hx => ?_⟩
  ·have hd:max w.heap.size P.globals.size + 1<=b:=Oj hd
   omega
  ·simp only [NU,NO] at hx
   obtain ⟨y,hy,rfl⟩:=hx
   exact ⟨y,by simpa using hy,KL P w y⟩
 ·obtain ⟨q1,a1,b1,c1⟩:=Jj P w b1
  obtain ⟨q2,a2,b2,c2⟩:=Jj P w b2
  rw [h1] at a1;rw [h2] at a2
  cases a1;cases a2
  omega
 ·obtain ⟨q1,a1,b1,c1⟩:=Jj P w b
  rw [h] at a1
  cases a1
  exact ⟨b1,c1⟩
theorem Calls_of_TCW {f:FuncId} {args vs:List Value} {v:Value} (w:World) (ha:xD (UE P w) args vs) (hv:J6 v=true) (ht:TC P f args (absH P w) (fun v1 _=>v1=v)) :
  Calls P f vs.toArray w fun e w'=>e = .returned v/\RowKit.Below w.heap.size w w':=by
 refine (ht _ w vs (pX P w) ha).mono fun e w' => ?_
 rintro ⟨v1,v',h1,ρ',rfl,rfl,st,hvr⟩
 refine ⟨by rw [CG hv hvr],st.os,st.tape,st.output,st.size,fun k hk=>st.frame k hk ?_⟩
 rintro ⟨b,o,pl,hb,hro,_⟩
 have h1:=(eR hb).1
 have h2:max w.heap.size P.globals.size + 1<=b:=hro
 omega
end
noncomputable section
variable {P:Program}
section
variable {h:za} {t e:TypeId} {cs:List Value} {k:IntKind}
end
section
variable {H:Type} {enc:TypeId × Value->H} {w:World} {held:Bool}
theorem Dt (k:IntKind) (i:Int):X4 P w (.int k i) = .int k i:=by rw [Um rfl];rfl
theorem BO (b:Bool):X4 P w (.bool b) = .bool b:=by rw [Um rfl];rfl
theorem ot (s:ByteArray):X4 P w (.string s) = .string s:=by rw [Um rfl];rfl
theorem Du:X4 P w (.slice none 0 0) = .slice none 0 0:=by rw [Um rfl];rfl
theorem Dv (a:Addr):X4 P w (.slice (some a) 0 0) = .slice (some ⟨0,0,none⟩) 0 0:=by rw [Um rfl];rfl
theorem rT {b off len cap:Nat} (h0:0 < cap) (hl:len<=cap) (hb:b < w.heap.size):X4 P w (.slice (some ⟨b,off,none⟩) len cap) = .slice (some ⟨b,off,none⟩) len 0:=by
 rw [Um rfl]
 have h1:(Nat.blt b w.heap.size && Nat.ble len cap)=true:=by simp [Of,hb,hl]
 obtain ⟨c,rfl⟩:∃ c,cap=c + 1:=⟨cap - 1,by omega⟩
 simp only [Dy,h1,NR]
theorem oQ {base:Nat} {a:Addr} {n:Nat} {l:List Value} (h:w.cells? base a n=some l) (h0:0 < n):∃ cs t fz,w.heap[a.block]? = some (.cells cs t fz)/\a.spot=none/\a.off + n<=cs.size/\l=(cs.toList.drop a.off).take n:=by
 obtain ⟨_,hl,hc⟩:=World.cells?_some h
 have hat:∀ i,i < n->∃ cs t fz,w.heap[a.block]? = some (.cells cs t fz)/\(i=0->a.spot=none)/\cs[a.off + i]? = l[i]? /\ a.off + i < cs.size:=by
  intro i hi
  have h1:=hc i (by omega)
  have hb:(a.add i).block=a.block:=by unfold Addr.add;split <;> rfl
  have ho:(a.add i).off=a.off + i:=by unfold Addr.add;split <;> simp_all
  unfold World.cell? at h1
  rw [hb,ho] at h1
  have hli:∃ v,l[i]? = some v:=⟨l[i],NC (by omega)⟩
  obtain ⟨v,hv⟩:=hli
  split at h1
  ·rename_i cs t fz hw
   refine ⟨cs,t,fz,hw,fun e => ?_,?_,?_⟩
   ·subst e
    have:a.add 0=a:=by unfold Addr.add;simp
    rw [this] at h1
    cases hs:a.spot with
    | none=>rfl
    | some x=>rw [hs] at h1;simp at h1;rw [h1] at hv;cases hv
   ·split at h1
    ·rw [hv] at h1;cases h1
    ·exact h1
   ·split at h1
    ·rw [hv] at h1;cases h1
    ·rw [hv] at h1
     rcases NZ (a.off + i) cs.size with q | q
     ·exact q
     ·rw [N3 q] at h1;cases h1
  ·rw [hv] at h1;cases h1
 obtain ⟨cs,t,fz,hw,hs,_⟩:=hat 0 h0
 refine ⟨cs,t,fz,hw,hs rfl,?_,?_⟩
 ·obtain ⟨cs',t',fz',hw',_,_,hlt⟩:=hat (n - 1) (by omega)
  rw [hw] at hw'
  cases hw'
  omega
 ·apply O2
  intro i
  by_cases hi:i < n
  ·obtain ⟨cs',t',fz',hw',_,he,_⟩:=hat i hi
   rw [hw] at hw'
   cases hw'
   rw [<- he,Ob hi,Od]
   simp
  ·rw [NM (by omega),NM (by simp;omega)]
end
end
noncomputable section
variable {P:Program}
def lD (P:Program) (w:World):Value->Value
 | .agg a => .agg (a.map (X4 P w))
 | v=>X4 P w v
theorem Ds (P:Program) (w:World) (v:Value):zD (UE P w) (lD P w v) v:=by
 unfold lD
 split
 ·rename_i a
  refine .agg (by simp) (fun i x y hx hy => ?_)
  simp only [Array.getElem?_map,hy,OG,Nz] at hx
  subst hx
  exact KL P w y
 ·exact KL P w _
def W8:Value->Bool
 | .agg _=>false
 | _=>true
theorem aO {w:World} {v:Value} (h:W8 v=true):W8 (X4 P w v)=true:=by
 have:=KL P w v
 cases v with
 | agg=>cases h
 | _=>
   generalize X4 P w _=x at this
   cases this <;> rfl
theorem WW {v:Value} (h:W8 v=true):v.cells.toList = [v]:=by
 cases v <;> first | rfl | cases h
theorem rS (P:Program) (w:World) (v:Value):(lD P w v).cells.toList=v.cells.toList.map (X4 P w):=by
 cases hv:W8 v with
 | false=>cases v <;> first | (simp [lD,Value.cells];done) | cases hv
 | true=>
   have e:lD P w v=X4 P w v:=by cases v <;> first | rfl | cases hv
   rw [e,WW hv,WW (aO hv)]
   rfl
theorem oq {w:World} {v:Value} (h:W8 v=true):W8 (lD P w v)=true:=by
 have e:lD P w v=X4 P w v:=by cases v <;> first | rfl | cases h
 rw [e]
 exact aO h
def Ek (P:Program) (t:TypeId):Bool:=match P.underlying t with
 | some (.struct _) | some (.array _ _)=>true
 | _=>false
theorem agg_of {a:Value} {l:List Value} (h:a.cells.toList=l) (hl:l.length ≠ 1):a = .agg l.toArray:=by
 cases ha:W8 a with
 | true=>rw [WW ha] at h;subst h;exact absurd rfl hl
 | false=>
   cases a with
   | agg c=>subst h;rfl
   | _=>cases ha
theorem mr {w:World} {r:Reach} {base:Nat} {t:TypeId} {v:Value} (h:Value.okWide P w r base t v) (hr:Ek P t=false):W8 v=true:=by
 cases v with
 | agg c=>
   exfalso
   unfold Ek at hr
   unfold Value.okWide at h
   split at hr
   ·cases hr
   ·cases hr
   ·rename_i n1 n2
    split at h
    ·rename_i fs hu;exact n1 _ hu
    ·rename_i m e hu;exact n2 _ _ hu
    ·unfold Cell.okWide at h
     split at h <;> first | (rename_i hh;cases hh;done) | skip
     all_goals first
      | (rename_i h2 h3;cases h3;done)
      | skip
     unfold Cell.ok at h
     split at h <;> first | exact h | (rename_i h2 h3;cases h3)
 | _=>rfl
section
variable {H:Type} {enc:TypeId × Value->H} {w:World} {held:Bool}
def kidsOk (P:Program) (l:List TypeId):Bool:=l.all fun t=>match P.underlying t with
 | some (.pointer e)=>l.contains e
 | some (.slice e)=>l.contains e && Nat.blt 0 (P.cellsOf e)
 | some (.array _ _)=>false
 | some (.map _ _)=>false
 | some (.struct fs)=>(fs.toList.all fun f=>l.contains f.type) && Nat.beq (P.cellsOf t) ((fs.toList.map fun f=>P.cellsOf f.type).sum) && (List.range fs.size).all fun j=>match fs.toList[j]? with
   | some f=>Nat.beq f.offset ((fs.toList.take j).map fun f=>P.cellsOf f.type).sum
   | none=>true
 | _=>true
theorem FT {l:List TypeId} (h:kidsOk P l=true):Kids P (· ∈ l) /\ ∀ {t e:TypeId},t ∈ l->P.underlying t=some (.slice e)->0 < P.cellsOf e:=by
 unfold kidsOk at h
 rw [NY] at h
 refine ⟨⟨fun ht hu => ?_,fun ht hu => ?_,fun ht hu => ?_,fun ht hu => ?_,fun ht hu => ?_⟩,fun ht hu => ?_⟩
 ·have:=h _ ht;rw [hu] at this;simpa using this
 ·have:=h _ ht;rw [hu] at this;simp only [ND] at this;simpa using this.1
 ·have:=h _ ht;rw [hu] at this;cases this
 ·rename_i t fs
  have:=h _ ht
  rw [hu] at this
  simp only [ND,NY] at this
  obtain ⟨⟨h1,h2⟩,h3⟩:=this
  refine ⟨fun f hf=>by simpa using h1 f hf,NL h2,fun j f hj => ?_⟩
  have hlt:j < fs.size:=by
   rcases NZ j fs.toList.length with q | q
   ·simpa using q
   ·rw [NM q] at hj;cases hj
  have:=h3 j (by simpa using hlt)
  rw [hj] at this
  exact NL this
 ·have:=h _ ht;rw [hu] at this;cases this
 ·have:=h _ ht;rw [hu] at this;simp only [ND] at this;simpa [Of] using this.2
theorem sQ {w w':World} (hb:RowKit.Below w.heap.size w w') {p:MemPlace} (hp:p.block < w.heap.size):w.sameAt w' p:=by
 cases p with
 | cell b off=>
   have hk:=hb.block b hp
   show w'.cell? _=w.cell? _
   unfold World.cell?
   simp only [hk]
 | map b=>exact hb.block b hp
theorem args_stay {l:List TypeId} (hk:kidsOk P l=true) {w':World} (hb:RowKit.Below w.heap.size w w') {sp:Nat->Bool}:∀ (ts:List TypeId) (vs:List Value) (ds:List (DataW H)) (p:List MemPlace),DataW.TrodAll enc P w 0 (fun _=>true) true ts vs ds p ->
  (∀ t,t ∈ ts->t ∈ l)->(∀ x,x ∈ p->x.block < w.heap.size)->(∀ x,x ∈ p->sp x.block=true)->DataW.TrodAll enc P w' 0 sp true ts vs ds p
 | [],[],[],p,h,ht,hl,hs=>h
 | t :: ts,v :: vs,d :: ds,p,h,ht,hl,hs=>by
   obtain ⟨p1,q1,⟨n,h1⟩,h2,rfl⟩:=h
   obtain ⟨K,hsz⟩:=FT hk
   refine ⟨p1,q1,⟨n,?_⟩,args_stay hk hb ts vs ds q1 h2 (fun t h=>ht t (by simp [h])) (fun x hx=>hl x (by simp [hx])) (fun x hx=>hs x (by simp [hx])),rfl⟩
   exact DataW.trod_stays K hsz (fun e=>by cases e) (ht t (by simp)) h1 (fun x hx=>sQ hb (hl x (by simp [hx]))) (fun x hx=>hs x (by simp [hx]))
 | [],_ :: _,_,p,h,_,_,_=>by cases h
 | [],[],_ :: _,p,h,_,_,_=>by cases h
 | _ :: _,[],_,p,h,_,_,_=>by cases h
 | _ :: _,_ :: _,[],p,h,_,_,_=>by cases h
end
end
noncomputable section
variable {P:Program}
def RW (P:Program) (h:za):Nat->TypeId->List Value->Prop
 | 0,_,_=>False
 | n + 1,t,cs=>match P.underlying t with
   | some .bool => ∃ b,cs = [.bool b]
   | some (.int k) => ∃ i,cs = [.int k i]/\(Lit.int k i).wf=true
   | some .string => ∃ s:ByteArray,cs = [.string s]/\s.size<=maxLen
   | some (.slice e)=>0 < P.cellsOf e->cs = [.slice none 0 0] \/ ∃ b off len,cs = [.slice (some ⟨b,off,none⟩) len 0]/\len * P.bytesOf e<=reachBytes/\(0 < len->∃ c t',h.get b=some (.cells c t') /\
     ∀ i,i < len->off + i * P.cellsOf e + P.cellsOf e<=c.length/\RW P h n e ((c.drop (off + i * P.cellsOf e)).take (P.cellsOf e)))
   | some (.struct fs)=>cs.length=P.cellsOf t /\ ∀ f,f ∈ fs->RW P h n f.type ((cs.drop f.offset).take (P.cellsOf f.type))
   | _=>True
def ad (P:Program) (h:za) (t:TypeId) (cs:List Value):Prop := ∃ n,RW P h n t cs
section
variable {h:za} {t e:TypeId} {cs:List Value} {k:IntKind}
theorem XU (hu:P.underlying t=some (.int k)) (r:ad P h t cs):∃ i,cs = [.int k i]/\(Lit.int k i).wf=true:=by
 obtain ⟨n,r⟩:=r
 cases n with
 | zero=>exact r.elim
 | succ n=>simpa only [RW,hu] using r
theorem CE (hu:P.underlying t=some .string) (r:ad P h t cs):∃ s:ByteArray,cs = [.string s]/\s.size<=maxLen:=by
 obtain ⟨n,r⟩:=r
 cases n with
 | zero=>exact r.elim
 | succ n=>simpa only [RW,hu] using r
theorem p9 (hu:P.underlying t=some (.slice e)) {sz bz:Nat} (hs:P.cellsOf e=sz) (hb:P.bytesOf e=bz) (h0:0 < sz) (r:ad P h t cs):cs = [.slice none 0 0] \/ ∃ b off len,cs = [.slice (some ⟨b,off,none⟩) len 0]/\len * bz<=reachBytes /\
  (0 < len->∃ c t',h.get b=some (.cells c t') /\ ∀ i,i < len->off + i * sz + sz<=c.length/\ad P h e ((c.drop (off + i * sz)).take sz)):=by
 subst hs hb
 obtain ⟨n,r⟩:=r
 cases n with
 | zero=>exact r.elim
 | succ n=>
   simp only [RW,hu] at r
   rcases r h0 with r | ⟨b,off,len,e1,e2,e3⟩
   ·exact .inl r
   ·refine .inr ⟨b,off,len,e1,e2,fun hl => ?_⟩
    obtain ⟨c,t',g,hc⟩:=e3 hl
    exact ⟨c,t',g,fun i hi=>⟨(hc i hi).1,n,(hc i hi).2⟩⟩
theorem J5 {fs:Array Field} (hu:P.underlying t=some (.struct fs)) (r:ad P h t cs):cs.length=P.cellsOf t /\ ∀ f,f ∈ fs->ad P h f.type ((cs.drop f.offset).take (P.cellsOf f.type)):=by
 obtain ⟨n,r⟩:=r
 cases n with
 | zero=>exact r.elim
 | succ n=>
   simp only [RW,hu] at r
   exact ⟨r.1,fun f hf=>⟨n,r.2 f hf⟩⟩
end
theorem V4 {H:Type} {e:TypeId}:∀ {l:List (DataW H)} {i:Nat} {d:DataW H},l[i]? = some d->∀ n ∈ d.weights P e,n ∈ DataW.weightsAll P e l
 | d0 :: l,0,d,hd,n,hn=>by
   simp only [NV,Nz] at hd
   subst hd
   simp only [DataW.weightsAll,Om]
   exact Or.inl hn
 | d0 :: l,i + 1,d,hd,n,hn=>by
   simp only [Oa] at hd
   simp only [DataW.weightsAll,Om]
   exact Or.inr (V4 hd n hn)
 | [],_,_,hd,_,_=>by simp at hd
section
variable {H:Type} {enc:TypeId × Value->H} {w:World} {held:Bool}
theorem QV {sp:Nat->Bool} (hsp:∀ b,sp b=true):∀ (n:Nat) (t:TypeId) (cs:List Value) (x:DataW H × List MemPlace),DataW.trod enc P w 0 sp held n t cs=some x->(∀ m ∈ x.1.weights P t,m<=reachBytes)->RW P (absH P w) n t (cs.map (X4 P w))
 | 0,t,cs,x,h,_=>by simp [DataW.trod] at h
 | n + 1,t,cs,x,h,hwt=>by
   unfold RW
   split
   ·rename_i hu
    obtain ⟨b,rfl,_⟩:=DataW.trod_bool hu h
    exact ⟨b,by simp only [OF,PK,BO]⟩
   ·rename_i k hu
    obtain ⟨i,rfl,_,hw⟩:=DataW.trod_int hu h
    exact ⟨i,by simp only [OF,PK,Dt],hw⟩
   ·rename_i hu
    obtain ⟨s,rfl,_,hw⟩:=DataW.trod_string hu h
    exact ⟨s,by simp only [OF,PK,ot],hw⟩
   ·rename_i e hu
    intro hz
    rcases DataW.trod_slice hu h with ⟨rfl,_⟩ | ⟨a,len,cap,elems,rest,m,hm,rfl,hx,_,hl,hmx,hel,hat,hrest,_⟩
    ·exact .inl (by simp only [OF,PK,Du])
    ·cases hm
     right
     have hr:=hrest (hsp _)
     have hwt2:∀ m ∈ (elems.length + rest.length) * P.bytesOf e :: (DataW.weightsAll P e (elems.map (·.1)) ++ DataW.weightsAll P e (rest.map (·.1))),m<=reachBytes:=by
      intro m hm'
      apply hwt
      rw [hx]
      simp only [DataW.weights,hu,NX]
      exact hm'
     have all:∀ i,i < cap->∃ l y,w.cells? 0 (a.add (i * P.cellsOf e)) (P.cellsOf e)=some l/\DataW.trod enc P w 0 sp held n e l=some y:=by
      intro i hi
      by_cases h1:i < len
      ·have:=hat i h1
       rw [NC (by omega)] at this
       simp only [Option.bind_eq_some_iff] at this
       obtain ⟨l,a1,a2⟩:=this
       exact ⟨l,_,a1,a2⟩
      ·have:=hr.2 (i - len) (by omega)
       rw [NC (by omega),show len + (i - len)=i by omega] at this
       simp only [Option.bind_eq_some_iff] at this
       obtain ⟨l,a1,a2⟩:=this
       exact ⟨l,_,a1,a2⟩
     by_cases hcap:cap=0
     ·have hlen:len=0:=by omega
      subst hcap hlen
      exact ⟨0,0,0,by simp only [OF,PK,Dv],by rw [PJ];exact Oe _,fun q=>absurd q (by decide)⟩
     ·· obtain ⟨l0,y0,c0,_⟩:=all 0 (by omega)
        have ha0:a.add (0 * P.cellsOf e)=a:=by rw [PJ];unfold Addr.add;simp
        rw [ha0] at c0
        obtain ⟨cc,t',fz,hw,hs,_,_⟩:=oQ c0 hz
        have hb:a.block < w.heap.size:=Zn hw
        obtain ⟨ab,ao,as⟩:=a
        simp only at hs hb hw
        subst hs
        refine ⟨ab,ao,len,by simp only [OF,PK,rT (Nat.pos_of_ne_zero hcap) hl hb],Oc (O3 _ (by omega)) (hwt2 _ NT),fun _=>⟨_,t',Dw hw,fun i hi => ?_⟩⟩
        have hati:=hat i hi
        rw [NC (by omega)] at hati
        simp only [Option.bind_eq_some_iff] at hati
        obtain ⟨l,c1,c2⟩:=hati
        have hmy:∀ m ∈ (elems[i]'(by omega)).1.weights P e,m<=reachBytes:=fun m hm'=>hwt2 m (OD _ (List.mem_append_left _ (V4 (i:=i) (by rw [NU,NC (by omega)];rfl) m hm')))
        obtain ⟨cc',t2,fz2,hw2,hs2,hle,rfl⟩:=oQ c1 hz
        have hblk:(Addr.add ⟨ab,ao,none⟩ (i * P.cellsOf e)).block=ab:=by unfold Addr.add;split <;> rfl
        have hoff:(Addr.add ⟨ab,ao,none⟩ (i * P.cellsOf e)).off=ao + i * P.cellsOf e:=by unfold Addr.add;split <;> simp_all
        rw [hblk,hw] at hw2
        cases hw2
        rw [hoff] at hle c2
        refine ⟨by simpa using hle,?_⟩
        have:=QV hsp n e _ _ c2 hmy
        rw [List.map_take,List.map_drop] at this
        exact this
   ·rename_i fs hu
    obtain ⟨xs,m,hm,hx,hl,hlen,hf⟩:=DataW.trod_struct hu h
    cases hm
    refine ⟨by simpa using hl,fun f hfm => ?_⟩
    obtain ⟨i,hi,e⟩:=Array.getElem_of_mem hfm
    have:=hf i f (by rw [N4 hi,e])
    rw [NC (by omega)] at this
    have hmy:∀ m ∈ (xs[i]'(by omega)).1.weights P f.type,m<=reachBytes:=fun m hm'=>hwt m (by
     rw [hx]
     simp only [DataW.weights,hu]
     exact DataW.weights_mem_each (j:=i) (by rw [NU,Array.getElem?_toList,N4 hi,e];rfl) (by rw [NU,NC (by omega)];rfl) m hm')
    have:=QV hsp n f.type _ _ this hmy
    rw [List.map_take,List.map_drop] at this
    exact this
   ·trivial
theorem bB {ts:List TypeId} {t:TypeId} {ds:List (DataW H)} {d:DataW H} (h:∀ m ∈ DataW.weightsEach P (t :: ts) (d :: ds),m<=reachBytes):(∀ m ∈ d.weights P t,m<=reachBytes) /\ ∀ m ∈ DataW.weightsEach P ts ds,m<=reachBytes:=by
 simp only [DataW.weightsEach,Om] at h
 exact ⟨fun m hm=>h m (.inl hm),fun m hm=>h m (.inr hm)⟩
def RWs (P:Program) (h:za):List TypeId->List Value->Prop
 | [],[]=>True
 | t :: ts,a :: as'=>(ad P h t a.cells.toList/\(Ek P t=false->W8 a=true))/\RWs P h ts as'
 | _,_=>False
theorem args_rw {sp:Nat->Bool} (hsp:∀ b,sp b=true) {r:Reach} {base:Nat}:∀ (ts:List TypeId) (vs:List Value) (ds:List (DataW H)) (p:List MemPlace),DataW.TrodAll enc P w 0 sp held ts vs ds p ->
  (∀ (j:Nat) t v,ts[j]? = some t->vs[j]? = some v->Value.okWide P w r base t v)->(∀ m ∈ DataW.weightsEach P ts ds,m<=reachBytes)->xD (UE P w) (vs.map (lD P w)) vs/\RWs P (absH P w) ts (vs.map (lD P w))
 | [],[],[],p,h,hv,_=>⟨.nil _,trivial⟩
 | t :: ts,v :: vs,d :: ds,p,h,hv,hm=>by
   obtain ⟨p1,q1,⟨n,h1⟩,h2,_⟩:=h
   obtain ⟨m1,m2⟩:=bB hm
   obtain ⟨a1,a2⟩:=args_rw hsp ts vs ds q1 h2 (fun j t v hj hv'=>hv (j + 1) t v (by simpa using hj) (by simpa using hv')) m2
   refine ⟨.cons (Ds P w v) a1,⟨⟨n,?_⟩,fun hr=>oq (mr (hv 0 t v rfl rfl) hr)⟩,a2⟩
   rw [rS]
   exact QV hsp n t _ _ h1 m1
 | [],_ :: _,_,p,h,hv,_=>by cases h
 | [],[],_ :: _,p,h,hv,_=>by cases h
 | _ :: _,[],_,p,h,hv,_=>by cases h
 | _ :: _,_ :: _,[],p,h,hv,_=>by cases h
end
end
noncomputable section
variable {P:Program}
def ya:Value->Bool
 | .complex _ _ _=>true
 | _=>false
structure Le (r s:Env):Prop where
 size:r.size=s.size
 get:∀ i,ya (r.get i)=true\/r.get i=s.get i
theorem Le.refl (s:Env):Le s s:=⟨rfl,fun _ => .inr rfl⟩
theorem Le.trans {a b c:Env} (h:Le a b) (k:Le b c):Le a c:=⟨h.size.trans k.size,fun i=>by
 rcases h.get i with e | e
 ·exact .inl e
 ·rcases k.get i with f | f
  ·exact .inl (by rw [e];exact f)
  ·exact .inr (e.trans f)⟩
theorem Le.put {r s r1:Env} {d:Option Nat} {v u:Value} (h:Le r s) (hp:r.put d v=some r1) (hv:ya v=true\/v=u):∃ s1,s.put d u=some s1/\Le r1 s1:=by
 cases d with
 | none=>simp only [Env.put,Nz] at hp;subst hp;exact ⟨s,rfl,h⟩
 | some d=>
   simp only [Env.put] at hp ⊢
   obtain ⟨hc,hp⟩:=zn hp
   rw [h.size] at hc
   rw [hc]
   simp only [Nz] at hp
   subst hp
   refine ⟨_,rfl,⟨h.size,fun i => ?_⟩⟩
   rw [Env.yj,Env.yj]
   by_cases e:i=d
   ·rw [NK e,NK e];exact hv
   ·rw [NJ e,NJ e];exact h.get i
def ev (s:Env):Operand->Value
 | .tmp t=>s.get t
 | .const v=>cond (flat v) v bot
 | .global g => .pointer (some ⟨g,0,some 0⟩)
 | .func f => .func (.func f) #[] #[]
theorem Nn {r s:Env} (h:Le r s) (x:Operand):ya (ev r x)=true\/qI s x=some (ev r x):=by
 cases x with
 | tmp t=>rcases h.get t with e | e
          ·exact .inl e
          ·exact .inr (by simp only [qI,ev,e])
 | const v=>cases hf:flat v with
   | true=>exact .inr (by simp only [qI,ev,hf,NR])
   | false=>exact .inl (by simp only [ev,hf,N1];rfl)
 | global g=>exact .inr rfl
 | func f=>exact .inr rfl
theorem jW {r s:Env} (h:Le r s) {x:Operand} (hb:ya (ev r x)=false):qI s x=some (ev r x):=by
 rcases Nn h x with e | e
 ·rw [e] at hb;cases hb
 ·exact e
def Jm (s:Env):List Operand->List Value
 | []=>[]
 | x :: l=>ev s x :: Jm s l
def yB:List Value->Bool
 | []=>true
 | v :: l=>cond (ya v) false (yB l)
theorem Vr {r s:Env} (h:Le r s):∀ {xs:List Operand},yB (Jm r xs)=true->X5 s xs=some (Jm r xs)
 | [],_=>rfl
 | x :: xs,hb=>by
   simp only [Jm,yB] at hb
   cases hx:ya (ev r x) with
   | true=>rw [hx] at hb;cases hb
   | false=>
     rw [hx] at hb
     simp only [X5,Jm,jW h hx,Vr h hb]
def FF (s:Env):List (Nat × Operand)->List (Nat × Value)
 | []=>[]
 | (i,x) :: l=>(i,ev s x) :: FF s l
def E7:List (Nat × Value)->List Value
 | []=>[]
 | (_,v) :: l=>v :: E7 l
theorem Ig {r s:Env} (h:Le r s):∀ {ps:List (Nat × Operand)},yB (E7 (FF r ps))=true->YY s ps=some (FF r ps)
 | [],_=>rfl
 | (i,x) :: ps,hb=>by
   simp only [FF,E7,yB] at hb
   cases hx:ya (ev r x) with
   | true=>rw [hx] at hb;cases hb
   | false=>
     rw [hx] at hb
     simp only [YY,FF,jW h hx,Ig h hb]
def Hc (s:Env):Option Operand->Option Value
 | none=>none
 | some x=>some (ev s x)
def Gc:Option Value->Bool
 | none=>true
 | some v => !ya v
theorem LU {r s:Env} (h:Le r s) {x:Option Operand} (hb:Gc (Hc r x)=true):gd s x=some (Hc r x):=by
 cases x with
 | none=>rfl
 | some y=>
   simp only [Hc,Gc,NN] at hb
   simp only [gd,Hc,jW h hb];rfl
def opt {α:Type} (x:Option α) (K:α->Prop):Prop:=match x with
 | some a=>K a
 | none=>False
theorem pQ {α:Type} (a:α) (K:α->Prop):opt (some a) K=K a:=rfl
theorem uB {α:Type} {x:Option α} {K:α->Prop} (h:opt x K):∃ a,x=some a/\K a:=by
 cases x with
 | none=>exact h.elim
 | some a=>exact ⟨a,rfl,h⟩
def zB (x:Option (Value × za)) (K:Value->za->Prop):Prop:=match x with
 | some (v,h)=>K v h
 | none=>False
theorem iX (v:Value) (h:za) (K:Value->za->Prop):zB (some (v,h)) K=K v h:=rfl
theorem jz {x:Option (Value × za)} {K:Value->za->Prop} (h:zB x K):∃ v g,x=some (v,g)/\K v g:=by
 cases x with
 | none=>exact h.elim
 | some a=>exact ⟨a.1,a.2,rfl,h⟩
def nw (h:za) (c:List Value) (t:TypeId) (K:Value->za->Prop):Prop:=K (.pointer (some ⟨h.next,0,none⟩)) (h.push (.cells c t))
def nb {α:Type} (l:List Value) (x:Option α):Option α:=cond (yB l) x none
theorem uv {α:Type} {l:List Value} {x:Option α} {a:α} (h:nb l x=some a):yB l=true/\x=some a:=zn h
def pk (c a b:Value):Option Value:=match c with
 | .bool true=>nb [a] (some a)
 | .bool false=>nb [b] (some b)
 | _=>none
def Mw:Value->Option Value
 | .pointer (some a)=>some (.pointer (some a))
 | .func (.func f) a c=>some (.func (.func f) a c)
 | _=>none
def rB (P:Program) (op:UnOp) (a:Value):Option Value:=cond (flat a) (fl (zT P (Op.unary op a))) none
def IK (P:Program) (t:TypeId) (a:Value):Option Value:=match zT P (Instr.makeInterface t (.bool true)) with
 | some _=>some (.iface t a)
 | none=>none
def IA (P:Program) (t:TypeId) (x:Value) (lo hi:Option Value) (h:za):Option Value:=match x with
 | .string str=>cond (pM lo && pM hi) (fl (zT P (Instr.sliceAt t (.string str) lo hi none))) none
 | v=>ee P t v lo hi h
def MD (P:Program) (t:TypeId) (x:Value) (f:Nat):Option Value:=match x with
 | .agg cs=>(match zT P (underlying t) with
   | some (.struct fields)=>(match fields[f]? with
     | some fd=>apart P fd.type cs.toList fd.offset
     | none=>none)
   | _=>none)
 | _=>none
def Fq (P:Program) (t:TypeId) (a b:Value):Option Value:=cond (flat a && flat b) (fl (zT P (Instr.index t a b))) none
def gi (x:Value) (i:Nat):Option Value:=match x with
 | .tuple vs=>nb (vs.toList) vs[i]?
 | _=>none
def w9 (h:za):Prop:=(∀ b o,h.get b=some o->b < h.next)/\h.ro<=h.next
def DC (P:Program) (f:FuncId) (args:List Value) (h:za) (R:Value->za->Prop):Prop :=
 w9 h->∃ v h1,R v h1/\AF h h1/\TC P f args h (fun v' h'=>v'=v/\h'=h1)
def Lb (P:Program) (g:FuncId) (args:List Value) (h:za) (K:Value->za->Prop):Prop :=
 yB args=true/\((vL P g=true/\DC P g args h K)\/zB (lO P g args h) K)
def M7 (P:Program) (L:Nat) (args:List Value) (h:za) (K:Value->za->Prop):Prop :=
 yB args=true/\(w9 h->∃ v h1,K v h1/\AF h h1/\TY P L args h (fun v' h'=>v'=v/\h'=h1))
def zH (P:Program) (f:Value) (args:List Value) (h:za) (K:Value->za->Prop):Prop:=match f with
 | .func (.func g) a c=>yB args=true/\Lb P g (a.toList ++ args ++ c.toList) h K
 | .func (.yield L) a c=>a = #[]/\c = #[]/\M7 P L args h K
 | _=>False
def mv (s:Env) (x:Operand) (h:za) (K:Value->za->Prop):Prop:=match x with
 | .tmp t=>K (s.get t) h
 | .const v=>cond (flat v) (K v h) False
 | .global g=>K (.pointer (some ⟨g,0,some 0⟩)) h
 | .func f=>K (.func (.func f) #[] #[]) h
def EJ (P:Program) (s:Env) (o:Oper) (h:za) (K:Value->za->Prop):Prop:=match o.op with
 | .move x | .assign x=>mv s x h K
 | .pick c a b=>opt (pk (ev s c) (ev s a) (ev s b)) fun v=>K v h
 | .box t x=>opt (nb [ev s x] (some (ev s x).cells.toList)) fun c=>nw h c t K
 | .alloc t=>opt (vK P t) fun z=>nw h z.cells.toList t K
 | .build t parts=>opt (nb (E7 (FF s parts.toList)) (jD P t (FF s parts.toList))) fun v=>K v h
 | .buildSlice t len parts=>zB (nb (E7 (FF s parts.toList)) (zf P t len (FF s parts.toList) h)) K
 | .load t a=>opt (zc P t (ev s a) h) fun v=>K v h
 | .store t a x=>opt (nb [ev s x] (zZ P t (ev s a) (ev s x) h)) fun h'=>K undef h'
 | .nilCheck x=>opt (Mw (ev s x)) fun v=>K v h
 | .binOp op t x y _=>opt (nb [ev s x,ev s y] (zd P op t x y (ev s x) (ev s y))) fun v=>K v h
 | .unOp op _ x=>opt (rB P op (ev s x)) fun v=>K v h
 | .convert src dst x=>zB (nb [ev s x] (wM P src dst (ev s x) h)) K
 | .makeInterface t x=>opt (nb [ev s x] (IK P t (ev s x))) fun v=>K v h
 | .makeFunc (.func f) first captured=>opt (nb (Jm s first.toList ++ Jm s captured.toList) (some (Value.func (.func f) (Jm s first.toList).toArray (Jm s captured.toList).toArray))) fun v=>K v h
 | .makeSlice t l c=>zB (Yg P t (ev s l) (ev s c) h) K
 | .slice t x lo hi none=>opt (nb [ev s x] (cond (Gc (Hc s lo) && Gc (Hc s hi)) (IA P t (ev s x) (Hc s lo) (Hc s hi) h) none)) fun v=>K v h
 | .fieldAddr t x f=>opt (zb P t (ev s x) f) fun v=>K v h
 | .field t x f=>opt (MD P t (ev s x) f) fun v=>K v h
 | .indexAddr t x i=>opt (zI P t (ev s x) (ev s i)) fun v=>K v h
 | .index t x i=>opt (Fq P t (ev s x) (ev s i)) fun v=>K v h
 | .extract x i=>opt (gi (ev s x) i) fun v=>K v h
 | .call { callee := .builtin b,args,argTypes }=>zB (nb (Jm s args.toList) (zg P b argTypes.toList o.type (Jm s args.toList) h)) K
 | .makeMap _ none=>K (vO h).1 (vO h).2
 | .lookup t x k ok=>opt (nb [ev s x,ev s k] (Zw P t (ev s x) (ev s k) ok h)) fun v=>K v h
 | .mapUpdate t m k x=>opt (nb [ev s m,ev s k,ev s x] (qE P t (ev s m) (ev s k) (ev s x) h)) fun h'=>K undef h'
 | .range t x=>zB (nb [ev s x] (JD P t (ev s x) h)) K
 | .next x str=>zB (nb [ev s x] (ik P (ev s x) str h)) K
 | .entry x=>opt (nb [ev s x] (lL (ev s x) h)) fun v=>K v h
 | _=>False
theorem Xe {v:Value} (h:yB [v]=true):ya v=false:=by
 simp only [yB] at h;cases hb:ya v with | true=>rw [hb] at h;cases h | false=>rfl
theorem ft {v w:Value} (h:yB [v,w]=true):ya v=false/\ya w=false:=by
 simp only [yB] at h;cases hb:ya v with | true=>rw [hb] at h;cases h | false=>rw [hb] at h;exact ⟨rfl,Xe h⟩
theorem sG {u v w:Value} (h:yB [u,v,w]=true):ya u=false/\ya v=false/\ya w=false:=by
 simp only [yB] at h;cases hb:ya u with | true=>rw [hb] at h;cases h | false=>rw [hb] at h;exact ⟨rfl,ft h⟩
theorem Cu {l m:List Value} (h:yB (l ++ m)=true):yB l=true/\yB m=true:=by
 induction l with
 | nil=>exact ⟨rfl,h⟩
 | cons v l ih=>
   simp only [List.cons_append,yB] at h ⊢
   cases hb:ya v with
   | true=>rw [hb] at h;cases h
   | false=>rw [hb] at h;exact ih h
theorem ZZ {h:za} {x:Option Value} {v:Value} (e:x=some v):one h x=some (v,h):=by rw [e];rfl
theorem Yl {v:Value} (h:ya v=true):∃ k a b,v = .complex k a b:=by cases v <;> first | exact ⟨_,_,_,rfl⟩ | cases h
theorem pE {r s:Env} (hl:Le r s) {x:Operand} {h:za} {K:Value->za->Prop} (hk:mv r x h K):∃ v u,qI s x=some u/\(ya v=true\/v=u)/\K v h:=by
 cases x with
 | tmp t=>exact ⟨_,_,rfl,hl.get t,hk⟩
 | const v=>
   simp only [mv] at hk
   cases hf:flat v with
   | true=>rw [hf] at hk;exact ⟨v,v,by simp only [qI,hf,NR],.inr rfl,hk⟩
   | false=>rw [hf] at hk;exact hk.elim
 | global g=>exact ⟨_,_,rfl,.inr rfl,hk⟩
 | func f=>exact ⟨_,_,rfl,.inr rfl,hk⟩
theorem kJ {r s:Env} (hl:Le r s) {o:Oper} {h:za} {K:Value->za->Prop} (hk:EJ P r o h K) :
  ∃ v u h',VL P s o h=some (u,h')/\(ya v=true\/v=u)/\K v h':=by
 have strict:∀ (x:Operand) {α:Type} (F:Value->Option α) {a:α},(∀ k p q,F (.complex k p q)=none)->F (ev r x)=some a->qI s x=some (ev r x):=by
  intro x α F a hF e
  refine jW hl ?_
  cases hb:ya (ev r x) with
  | false=>rfl
  | true=>obtain ⟨k,p,q,e2⟩:=Yl hb;rw [e2,hF] at e;cases e
 unfold EJ at hk
 unfold VL
 split at hk <;> rename_i yz <;> simp only [yz]
 ·obtain ⟨v,u,e,hv,hk⟩:=pE hl hk
  exact ⟨v,u,h,by rw [e];rfl,hv,hk⟩
 ·obtain ⟨v,u,e,hv,hk⟩:=pE hl hk
  exact ⟨v,u,h,by rw [e];rfl,hv,hk⟩
 ·rename_i c a b
  obtain ⟨v,e,hk⟩:=uB hk
  have ec:=strict c (fun x=>pk x (ev r a) (ev r b)) (fun _ _ _=>rfl) e
  rw [ec]
  unfold pk at e
  split at e
  ·rename_i hc
   obtain ⟨n,e⟩:=uv e
   cases e
   rw [hc];simp only [jW hl (Xe n)]
   exact ⟨_,_,h,rfl,.inr rfl,hk⟩
  ·rename_i hc
   obtain ⟨n,e⟩:=uv e
   cases e
   rw [hc];simp only [jW hl (Xe n)]
   exact ⟨_,_,h,rfl,.inr rfl,hk⟩
  ·cases e
 ·obtain ⟨c,e,hk⟩:=uB hk
  obtain ⟨n,e⟩:=uv e
  cases e
  simp only [jW hl (Xe n)]
  exact ⟨_,_,_,rfl,.inr rfl,hk⟩
 ·obtain ⟨z,e,hk⟩:=uB hk
  rw [e]
  exact ⟨_,_,_,rfl,.inr rfl,hk⟩
 ·obtain ⟨v,e,hk⟩:=uB hk
  obtain ⟨n,e⟩:=uv e
  simp only [Ig hl n]
  exact ⟨_,_,_,ZZ e,.inr rfl,hk⟩
 ·obtain ⟨v,g,e,hk⟩:=jz hk
  obtain ⟨n,e⟩:=uv e
  simp only [Ig hl n]
  exact ⟨_,_,_,e,.inr rfl,hk⟩
 ·obtain ⟨v,e,hk⟩:=uB hk
  rw [strict _ (fun x=>zc P _ x h) (fun _ _ _=>rfl) e]
  exact ⟨_,_,_,ZZ e,.inr rfl,hk⟩
 ·obtain ⟨v,e,hk⟩:=uB hk
  obtain ⟨n,e⟩:=uv e
  rw [strict _ (fun x=>zZ P _ x _ h) (fun _ _ _=>rfl) e]
  simp only [jW hl (Xe n),e]
  exact ⟨_,_,_,rfl,.inr rfl,hk⟩
 ·obtain ⟨v,e,hk⟩:=uB hk
  rw [strict _ Mw (fun _ _ _=>rfl) e]
  unfold Mw at e
  split at e
  ·rename_i hc;cases e;rw [hc];exact ⟨_,_,_,rfl,.inr rfl,hk⟩
  ·rename_i hc;cases e;rw [hc];exact ⟨_,_,_,rfl,.inr rfl,hk⟩
  ·cases e
 ·obtain ⟨v,e,hk⟩:=uB hk
  obtain ⟨n,e⟩:=uv e
  simp only [jW hl (ft n).1,jW hl (ft n).2]
  exact ⟨_,_,_,ZZ e,.inr rfl,hk⟩
 ·obtain ⟨v,e,hk⟩:=uB hk
  rw [strict _ (rB P _) (fun _ _ _=>rfl) e]
  obtain ⟨hf,e⟩:=zn e
  simp only [hf,NR]
  exact ⟨_,_,_,ZZ e,.inr rfl,hk⟩
 ·obtain ⟨v,g,e,hk⟩:=jz hk
  obtain ⟨n,e⟩:=uv e
  simp only [jW hl (Xe n)]
  exact ⟨_,_,_,e,.inr rfl,hk⟩
 ·obtain ⟨v,e,hk⟩:=uB hk
  obtain ⟨n,e⟩:=uv e
  simp only [jW hl (Xe n)]
  unfold IK at e
  split at e
  ·rename_i hm;cases e;rw [hm];exact ⟨_,_,_,rfl,.inr rfl,hk⟩
  ·cases e
 ·obtain ⟨v,e,hk⟩:=uB hk
  obtain ⟨n,e⟩:=uv e
  cases e
  obtain ⟨n1,n2⟩:=Cu n
  simp only [Vr hl n1,Vr hl n2]
  exact ⟨_,_,_,rfl,.inr rfl,hk⟩
 ·rename_i t l c
  obtain ⟨v,g,e,hk⟩:=jz hk
  have e1:=strict l (fun x=>Yg P t x (ev r c) h) (fun _ _ _=>rfl) e
  have e2:=strict c (fun x=>Yg P t (ev r l) x h) (fun k p q=>by unfold Yg;split <;> first | rfl | (rename_i hh _;cases hh)) e
  simp only [e1,e2]
  exact ⟨_,_,_,e,.inr rfl,hk⟩
 ·rename_i t x lo hi
  obtain ⟨v,e,hk⟩:=uB hk
  obtain ⟨n,e⟩:=uv e
  obtain ⟨hb,e⟩:=zn e
  simp only [ND] at hb
  simp only [jW hl (Xe n),LU hl hb.1,LU hl hb.2]
  unfold IA at e
  split at e
  ·rename_i str hs
   rw [hs]
   simp only [VL.flatSlice,e]
   exact ⟨_,_,_,rfl,.inr rfl,hk⟩
  ·rename_i hs
   split
   ·rename_i a b c str h1 h2 h3
    exact absurd (PE h1) (fun q=>hs _ q)
   ·rename_i h1 h2 h3
    cases h1;cases h2;cases h3
    exact ⟨_,_,_,ZZ e,.inr rfl,hk⟩
   ·rename_i h1 h2
    exact absurd rfl (h2 _ _ _ rfl rfl)
 ·rename_i t x f
  obtain ⟨v,e,hk⟩:=uB hk
  rw [strict x (fun x=>zb P t x f) (fun _ _ _=>rfl) e]
  exact ⟨_,_,_,ZZ e,.inr rfl,hk⟩
 ·rename_i t x f
  obtain ⟨v,e,hk⟩:=uB hk
  rw [strict x (fun x=>MD P t x f) (fun _ _ _=>rfl) e]
  unfold MD at e
  split at e
  ·rename_i cs hc
   rw [hc]
   split at e
   ·rename_i fields hu
    simp only [hu]
    split at e
    ·rename_i fd hfd;simp only [hfd];exact ⟨_,_,_,ZZ e,.inr rfl,hk⟩
    ·cases e
   ·cases e
  ·cases e
 ·rename_i t x i
  obtain ⟨v,e,hk⟩:=uB hk
  have e1:=strict x (fun x=>zI P t x (ev r i)) (fun k p q=>by unfold zI;split <;> (try rfl);split <;> first | rfl | (rename_i hh;cases hh)) e
  have e2:=strict i (fun y=>zI P t (ev r x) y) (fun k p q=>rfl) e
  simp only [e1,e2]
  exact ⟨_,_,_,ZZ e,.inr rfl,hk⟩
 ·rename_i t x i
  obtain ⟨v,e,hk⟩:=uB hk
  have e1:=strict x (fun x=>Fq P t x (ev r i)) (fun k p q=>rfl) e
  have e2:=strict i (fun y=>Fq P t (ev r x) y) (fun k p q=>by unfold Fq;cases flat (ev r x) <;> rfl) e
  obtain ⟨hf,e⟩:=zn e
  simp only [e1,e2,hf,NR]
  exact ⟨_,_,_,ZZ e,.inr rfl,hk⟩
 ·rename_i x i
  obtain ⟨v,e,hk⟩:=uB hk
  rw [strict x (fun x=>gi x i) (fun _ _ _=>rfl) e]
  unfold gi at e
  split at e
  ·rename_i vs hc
   rw [hc]
   obtain ⟨n,e⟩:=uv e
   exact ⟨_,_,_,ZZ e,.inr rfl,hk⟩
  ·cases e
 ·obtain ⟨v,g,e,hk⟩:=jz hk
  obtain ⟨n,e⟩:=uv e
  simp only [Vr hl n]
  exact ⟨_,_,_,e,.inr rfl,hk⟩
 ·exact ⟨_,_,_,rfl,.inr rfl,hk⟩
 ·obtain ⟨v,e,hk⟩:=uB hk
  obtain ⟨n,e⟩:=uv e
  simp only [jW hl (ft n).1,jW hl (ft n).2]
  exact ⟨_,_,_,ZZ e,.inr rfl,hk⟩
 ·obtain ⟨v,e,hk⟩:=uB hk
  obtain ⟨n,e⟩:=uv e
  simp only [jW hl (sG n).1,jW hl (sG n).2.1,jW hl (sG n).2.2,e]
  exact ⟨_,_,_,rfl,.inr rfl,hk⟩
 ·obtain ⟨v,g,e,hk⟩:=jz hk
  obtain ⟨n,e⟩:=uv e
  simp only [jW hl (Xe n)]
  exact ⟨_,_,_,e,.inr rfl,hk⟩
 ·obtain ⟨v,g,e,hk⟩:=jz hk
  obtain ⟨n,e⟩:=uv e
  simp only [jW hl (Xe n)]
  exact ⟨_,_,_,e,.inr rfl,hk⟩
 ·obtain ⟨v,e,hk⟩:=uB hk
  obtain ⟨n,e⟩:=uv e
  simp only [jW hl (Xe n)]
  exact ⟨_,_,_,ZZ e,.inr rfl,hk⟩
 ·exact hk.elim
end
noncomputable section
variable {P:Program}
def Fw (d:Option Nat):Nat:=match d with
 | some d=>1 <<< d
 | none=>0
def XD:List Oper->Nat
 | []=>0
 | o :: os=>Fw o.dst ||| XD os
def jL:Code->Nat
 | .region _ ops _=>XD ops.toList
 | .seq a b=>jL a ||| jL b
 | .cond _ a b=>jL a ||| jL b
 | .block _ a=>jL a
 | .scope a=>jL a
 | .loop a=>jL a
 | _=>0
def Iu (x:Operand):Nat:=match x with
 | .tmp t=>1 <<< t
 | _=>0
def Mg:List Operand->Nat
 | []=>0
 | x :: l=>Iu x ||| Mg l
def Mh (d:Nat):List Oper->Nat
 | []=>0
 | o :: os=>(Nat.xor (Mg o.op.operands.toList ||| d) d) ||| Mh (d ||| Fw o.dst) os
def HU:Code->Nat
 | .region _ ops _=>XD ops.toList
 | .seq a b=>HU a ||| HU b
 | .cond _ a b=>Nat.land (HU a) (HU b)
 | .scope a=>HU a
 | _=>0
def mM:Code->Nat
 | .region _ ops _=>Mh 0 ops.toList
 | .seq a b=>mM a ||| Nat.xor (mM b ||| HU a) (HU a)
 | .cond x a b=>Iu x ||| mM a ||| mM b
 | .block _ a=>mM a
 | .scope a=>mM a
 | .loop a=>mM a
 | .rangeFunc f _ a b=>Iu f ||| mM a ||| mM b
 | _=>0
def bits (m n:Nat):List Nat:=(List.range n).filter fun t=>m.testBit t
theorem Ez {m n t:Nat}:t ∈ bits m n ↔ t < n/\m.testBit t=true:=by simp [bits]
structure Fr (m:Nat) (s s1:Env):Prop where
 size:s1.size=s.size
 get:∀ t,m.testBit t=false->s1.get t=s.get t
 out:∀ t,s.size<=t->s1.get t=s.get t
theorem Fr.refl (m:Nat) (s:Env):Fr m s s:=⟨rfl,fun _ _=>rfl,fun _ _=>rfl⟩
theorem Fr.trans {m:Nat} {a b c:Env} (h:Fr m a b) (k:Fr m b c):Fr m a c :=
 ⟨k.size.trans h.size,fun t ht=>(k.get t ht).trans (h.get t ht),fun t ht=>(k.out t (by rw [h.size];exact ht)).trans (h.out t ht)⟩
theorem Fr.left {m n:Nat} {a b:Env} (h:Fr m a b):Fr (m ||| n) a b:=⟨h.size,fun t ht=>h.get t (by rw [Nat.testBit_or] at ht;simp only [OL] at ht;exact ht.1),h.out⟩
theorem Fr.right {m n:Nat} {a b:Env} (h:Fr n a b):Fr (m ||| n) a b:=⟨h.size,fun t ht=>h.get t (by rw [Nat.testBit_or] at ht;simp only [OL] at ht;exact ht.2),h.out⟩
theorem Fr.put {s s1:Env} {d:Option Nat} {v:Value} (h:s.put d v=some s1):Fr (Fw d) s s1:=by
 cases d with
 | none=>simp only [Env.put,Nz] at h;subst h;exact .refl _ _
 | some d=>
   simp only [Env.put] at h
   obtain ⟨hd,h⟩:=zn h
   simp only [Nz] at h
   subst h
   have hd:d < s.size:=by simpa [Of] using hd
   refine ⟨rfl,fun t ht => ?_,fun t ht => ?_⟩
   ·rw [Env.yj]
    simp only [Fw,Nat.testBit_shiftLeft] at ht
    rw [NJ (by intro e;subst e;simp at ht)]
   ·rw [Env.yj,NJ (by omega)]
def nth:List Value->Nat->Value
 | [],_=>bot
 | a :: _,0=>a
 | _ :: l,n + 1=>nth l n
def Xf (lv:Nat) (s:Env):List Nat->List Value
 | []=>[]
 | t :: ts=>cond (lv.testBit t) (s.get t :: Xf lv s ts) (Xf lv s ts)
def Va (lv:Nat) (vs:List Value):List Nat->Nat->Env->Env
 | [],_,s=>s
 | t :: ts,i,s=>cond (lv.testBit t) (Va lv vs ts (i + 1) (s.set t (nth vs i))) (Va lv vs ts i (s.set t bot))
theorem J3 {lv:Nat} {vs:List Value} {r1 s1:Env} (h1:Le r1 s1):∀ (ts:List Nat) (i:Nat) (r:Env),r.size=s1.size->(∀ k,nth vs (i + k)=nth (Xf lv r1 ts) k)->(∀ t,t ∈ ts\/ya (r.get t)=true\/r.get t=s1.get t)->Le (Va lv vs ts i r) s1
 | [],i,r,hz,_,h=>⟨hz,fun t=>by rcases h t with h | h; · cases h
                                ·exact h⟩
 | t :: ts,i,r,hz,hv,h=>by
   simp only [Va]
   cases hb:lv.testBit t with
   | true=>
     simp only [NR]
     have e0:nth vs i=r1.get t:=by have:=hv 0;simp only [Xf,hb,NR] at this;exact this
     refine J3 h1 ts (i + 1) _ hz (fun k => ?_) (fun t' => ?_)
     ·have:=hv (k + 1);simp only [Xf,hb,NR] at this
      rw [show i + 1 + k=i + (k + 1) by omega];exact this
     ·rw [Env.yj,e0]
      by_cases e:t'=t
      ·subst e;rw [NK rfl];exact .inr (h1.get t')
      ·rw [NJ e]
       rcases h t' with h2 | h2
       ·rcases Ox.1 h2 with h3 | h3
        ·exact absurd h3 e
        ·exact .inl h3
       ·exact .inr h2
   | false=>
     simp only [N1]
     refine J3 h1 ts i _ hz (fun k => ?_) (fun t' => ?_)
     ·have:=hv k;simp only [Xf,hb,N1] at this;exact this
     ·rw [Env.yj]
      by_cases e:t'=t
      ·rw [NK e];exact .inr (.inl rfl)
      ·rw [NJ e]
       rcases h t' with h2 | h2
       ·rcases Ox.1 h2 with h3 | h3
        ·exact absurd h3 e
        ·exact .inl h3
       ·exact .inr h2
theorem join_le {lv m:Nat} {r s r1 s1:Env} (h:Le r s) (h1:Le r1 s1) (f:Fr m s s1):Le (Va lv (Xf lv r1 (bits m r.size)) (bits m r.size) 0 r) s1:=by
 refine J3 h1 _ _ _ (h.size.trans f.size.symm) (fun k=>by rw [OT]) (fun t => ?_)
 by_cases hm:m.testBit t=true
 ·by_cases hz:t < r.size
  ·exact .inl (Ez.2 ⟨hz,hm⟩)
  ·
   rcases h.get t with e | e
   ·exact .inr (.inl e)
   ·exact .inr (.inr (e.trans (f.out t (by rw [<- h.size];omega)).symm))
 ·simp only [Py] at hm
  rcases h.get t with e | e
  ·exact .inr (.inl e)
  ·exact .inr (.inr (e.trans (f.get t hm).symm))
def L9 (P:Program) (s:Env) (o:Oper) (h:za) (K:Value->za->Prop):Prop:=match o.op with
 | .call { callee := .value f,args,argTypes }=>zH P (ev s f) (Jm s args.toList) h K
 | _=>EJ P s o h K
def GD (g:Value) (want:Bool) (A:(Value->za->Prop)->Prop) (K:Value->za->Prop) (h:za):Prop:=match g with
 | .bool b=>(b=want->A K)/\(b ≠ want->K undef h)
 | .complex _ _ _=>False
 | _=>K undef h
def Fm (P:Program) (ops:Array Oper):List Oper->Env->za->(Env->za->Prop)->Prop
 | [],s,h,K=>K s h
 | o :: os,s,h,K=>(match o.guard with
   | none=>L9 P s o h fun v h1=>(match s.put o.dst v with
     | some s1=>Fm P ops os s1 h1 K
     | none=>False)
   | some (j,want)=>(match (ops[j]?).bind (·.dst) with
     | none=>False
     | some d=>GD (s.get d) want (L9 P s o h) (fun v h1=>(match s.put o.dst v with
       | some s1=>Fm P ops os s1 h1 K
       | none=>False)) h))
theorem w9.af {h h':za} (w:w9 h) (a:AF h h'):w9 h' :=
 ⟨fun b o hb=>by
  rcases a.alive b o hb with e | e
  ·cases hh:h.get b with
   | none=>exact absurd hh e
   | some o'=>exact NH (w.1 b o' hh) a.next
  ·exact e.2,by rw [a.ro];exact Oc w.2 a.next⟩
theorem DW {ops:Array Oper} {r s:Env} {h:za} {o:Oper} {f:Operand} {args:Array Operand} {ts:Array TypeId} {K:Value->za->Prop}
  (hw:yi ops s o=true) (hl:Le r s) (wf:w9 h) (yz:o.op = .call { callee := .value f,args:=args,argTypes:=ts }) (hk:zH P (ev r f) (Jm r args.toList) h K) :
  ∃ v h1,K v h1/\AF h h1 /\ ∀ (i:Nat) (rest:List Nat) (s1:Env) (Q:Env->za->Prop),ops[i]? = some o->s.put o.dst v=some s1->TO P ops rest s1 h1 Q->TO P ops (i :: rest) s h Q:=by
 unfold zH at hk
 split at hk
 ·rename_i g a c hf
  have ef:qI s f=some (.func (.func g) a c):=by rw [jW hl (x:=f) (by rw [hf];rfl),hf]
  obtain ⟨hn0,hn,hk⟩:=hk
  have ea:=Vr hl hn0
  rcases hk with ⟨hc,hd⟩ | hk
  ·obtain ⟨v,h1,hK,af,hT⟩:=hd wf
   exact ⟨v,h1,hK,af,fun i rest s1 Q ho hp ht=>tl ho hw yz ef ea hc hT (by rintro v2 h2 ⟨rfl,rfl⟩;exact ⟨s1,hp,ht⟩)⟩
  ·obtain ⟨v,g',e,hk⟩:=jz hk
   exact ⟨v,g',hk,(ZS e).af,fun i rest s1 Q ho hp ht=>GA ho hw (by rw [yz];rfl) (fun ρ w a hr hs=>lP yz ef ea e hr hs) hp ht⟩
 ·rename_i L a c hf
  obtain ⟨ha,hc,hn,hk⟩:=hk
  obtain ⟨v,h1,hK,af,hT⟩:=hk wf
  subst ha hc
  have ef:qI s f=some (.func (.yield L) #[] #[]):=by rw [jW hl (x:=f) (by rw [hf];rfl),hf]
  exact ⟨v,h1,hK,af,fun i rest s1 Q ho hp ht=>mQ ho hw yz ef (Vr hl hn) hT (by rintro v2 h2 ⟨rfl,rfl⟩;exact ⟨s1,hp,ht⟩)⟩
 ·exact hk.elim
theorem Im {ops:Array Oper} {r s:Env} {h:za} {o:Oper} {K:Value->za->Prop} (hw:yi ops s o=true) (hl:Le r s) (wf:w9 h) (hk:L9 P r o h K) :
  ∃ v u h1,K v h1/\(ya v=true\/v=u)/\AF h h1 /\ ∀ (i:Nat) (rest:List Nat) (s1:Env) (Q:Env->za->Prop),ops[i]? = some o->s.put o.dst u=some s1->TO P ops rest s1 h1 Q->TO P ops (i :: rest) s h Q:=by
 unfold L9 at hk
 split at hk
 ·rename_i f args ts yz
  obtain ⟨v,h1,hK,af,go⟩:=DW (ops:=ops) hw hl wf yz hk
  exact ⟨v,v,h1,hK,.inr rfl,af,go⟩
 ·obtain ⟨v,u,h',e,hv,hk⟩:=kJ hl hk
  exact ⟨v,u,h',hk,hv,(Zi e).1,fun i rest s1 Q ho hp ht=>GB ho hw e hp ht⟩
theorem i9 {ops:Array Oper}:∀ (l:List Oper) (i:Nat) {r s:Env} {h:za} {K:Env->za->Prop},ops.toList.drop i=l->Le r s->w9 h->Fm P ops l r h K ->
  ∃ r' s' h',Le r' s'/\K r' h'/\Fr (XD l) s s'/\AF h h'/\TO P ops (List.range' i l.length) s h (fun s1 h1=>s1=s'/\h1=h')
 | [],i,r,s,h,K,_,hl,wf,hk=>⟨r,s,h,hl,hk,.refl _ _,.refl _,CY ⟨rfl,rfl⟩⟩
 | o :: os,i,r,s,h,K,hd,hl,wf,hk=>by
   have ho:ops[i]? = some o:=by
    have:=congrArg (fun l=>l[0]?) hd
    simp only [Od,NV] at this
    simpa using this
   have hd':ops.toList.drop (i + 1)=os:=by rw [<- PG,hd];rfl
   rw [OM,List.range'_succ]
   have next:∀ v u h1,AF h h1->(match r.put o.dst v with | some s1=>Fm P ops os s1 h1 K | none=>False)->(ya v=true\/v=u)->∃ s1 r' s' h',s.put o.dst u=some s1/\Le r' s'/\K r' h'/\Fr (XD (o :: os)) s s'/\AF h h' /\
     TO P ops (List.range' (i + 1) os.length) s1 h1 (fun s1 h1=>s1=s'/\h1=h'):=by
    intro v u h1 af hk hv
    split at hk
    ·rename_i r1 hp
     obtain ⟨s1,hp1,hl1⟩:=hl.put hp hv
     obtain ⟨r',s',h',l',k',f',a',t'⟩:=i9 os (i + 1) hd' hl1 (wf.af af) hk
     exact ⟨s1,r',s',h',hp1,l',k',(Fr.put hp1).left.trans f'.right,af.trans a',t'⟩
    ·exact hk.elim
   have run:yi ops s o=true->L9 P r o h (fun v h1=>match r.put o.dst v with | some s1=>Fm P ops os s1 h1 K | none=>False) ->
     ∃ r' s' h',Le r' s'/\K r' h'/\Fr (XD (o :: os)) s s'/\AF h h'/\TO P ops (i :: List.range' (i + 1) os.length) s h (fun s1 h1=>s1=s'/\h1=h'):=by
    intro hw hk
    obtain ⟨v,u,h1,hK,hv,af,go⟩:=Im (ops:=ops) hw hl wf hk
    obtain ⟨s1,r',s',h',hp,l',k',f',a',t'⟩:=next v u h1 af hK hv
    exact ⟨r',s',h',l',k',f',a',go i _ s1 _ ho hp t'⟩
   have skip:yi ops s o=false->(match r.put o.dst undef with | some s1=>Fm P ops os s1 h K | none=>False) ->
     ∃ r' s' h',Le r' s'/\K r' h'/\Fr (XD (o :: os)) s s'/\AF h h'/\TO P ops (i :: List.range' (i + 1) os.length) s h (fun s1 h1=>s1=s'/\h1=h'):=by
    intro hw hk
    obtain ⟨s1,r',s',h',hp,l',k',f',a',t'⟩:=next undef undef h (.refl _) hk (.inr rfl)
    exact ⟨r',s',h',l',k',f',a',tp ho hw hp t'⟩
   simp only [Fm] at hk
   split at hk
   ·rename_i hg
    exact run (by simp only [yi,hg]) hk
   ·rename_i j want hg
    split at hk
    ·exact hk.elim
    ·rename_i d hdst
     unfold GD at hk
     split at hk
     ·rename_i b hb
      have hs:s.get d = .bool b:=by
       rcases hl.get d with e | e
       ·rw [hb] at e;cases e
       ·rw [<- e,hb]
      have haw:yi ops s o=(b == want):=by simp only [yi,hg,hdst,hs]
      by_cases hbw:b=want
      ·exact run (by rw [haw,hbw];simp) (hk.1 hbw)
      ·exact skip (by rw [haw];simpa using hbw) (hk.2 hbw)
     ·exact hk.elim
     ·rename_i n1 n2
      have hs:s.get d=r.get d:=by
       rcases hl.get d with e | e
       ·obtain ⟨k,p,q,e2⟩:=Yl e;exact absurd e2 (n2 k p q)
       ·exact e.symm
      have haw:yi ops s o=false:=by
       simp only [yi,hg,hdst,hs]
      exact skip haw hk
structure Ks where
 mK:Env->za->Prop
 ret:Env->za->Prop
 ext:Nat->Env->za->Prop
def Ks.on (K:Ks):Ex->Env->za->Prop
 | .normal=>K.mK
 | .ret=>K.ret
 | .exit id=>K.ext id
def Ks.with (K:Ks) (n:Env->za->Prop):Ks:=⟨n,K.ret,K.ext⟩
def CD (g:Value) (A B:(List Value->za->Prop)->Prop) (J:List Value->za->Prop):Prop:=match g with
 | .bool true=>A J
 | .bool false=>B J
 | _=>False
def BK (A:(List Value->za->Prop)->Prop) (J:List Value->za->Prop):Prop:=A J
def LP (step:List Value->za->(List Value->za->Prop)->Prop) (vs:List Value) (h:za):Prop :=
 ∃ (I:Nat->List Value->za->Prop) (n:Nat),I n vs h /\ ∀ n vs h,I n vs h->step vs h (fun vs' h' => ∃ m,m < n/\I m vs' h')
def Ih:Unit:=(fun (_:Prop)=>()) (∀ (P:Program) (ops:Array Oper) (l:List Oper) (s:Env) (h:za) (K:Env->za->Prop) (A B:(List Value->za->Prop)->Prop) (J:List Value->za->Prop) (g:Value) (st:List Value->za->(List Value->za->Prop)->Prop) (vs:List Value),Fm P ops l s h K/\CD g A B J/\BK A J/\LP st vs h)
def Hl (b:Bool) (x y:Prop):Prop:=Function.const Unit (cond b x y) Ih
abbrev Hs:=Nat->Code->Env->za->Ks->Prop
def Mo (P:Program) (D:Array Oper->Env->za->(Env->za->Prop)->Prop) (rec:Hs):Hs:=fun lv c s h K=>match c with
 | .skip=>K.mK s h
 | .label _=>K.mK s h
 | .exit id=>K.ext id s h
 | .ret=>K.ret s h
 | .seq a b=>rec (lv ||| mM b) a s h (K.with fun s1 h1=>rec lv b s1 h1 K)
 | .cond x a b=>CD (ev s x) (fun j=>rec lv a s h (K.with fun s1 h1=>j (Xf lv s1 (bits (jL a ||| jL b) s.size)) h1)) (fun j=>rec lv b s h (K.with fun s1 h1=>j (Xf lv s1 (bits (jL a ||| jL b) s.size)) h1))
   (fun vs h1=>K.mK (Va lv vs (bits (jL a ||| jL b) s.size) 0 s) h1)
 | .block id a=>BK (fun j=>rec lv a s h ⟨fun s1 h1=>j (Xf lv s1 (bits (jL a) s.size)) h1,K.ret,fun i s1 h1=>cond (Nat.beq i id) (j (Xf lv s1 (bits (jL a) s.size)) h1) (K.ext i s1 h1)⟩)
   (fun vs h1=>K.mK (Va lv vs (bits (jL a) s.size) 0 s) h1)
 | .scope a=>rec lv a s h K
 | .loop a=>LP (fun vs h1 j=>rec (lv ||| mM a) a (Va (lv ||| mM a) vs (bits (jL a) s.size) 0 s) h1 (K.with fun s1 h2=>j (Xf (lv ||| mM a) s1 (bits (jL a) s.size)) h2))
   (Xf (lv ||| mM a) s (bits (jL a) s.size)) h
 | .region _ ops draw=>Hl draw (D ops s h K.mK) (Fm P ops ops.toList s h K.mK)
 | _=>False
def Qe (P:Program) (D:Array Oper->Env->za->(Env->za->Prop)->Prop):Prop :=
 ∀ ops r s h K rd id,Le r s->w9 h->D ops r h K->∃ r' s' h',Le r' s'/\K r' h'/\Fr (XD ops.toList) s s'/\AF h h'/\T P rd (.region id ops true) s h (fun e s1 h1=>e = .normal/\s1=s'/\h1=h')
def Good (P:Program) (rd:Option Nat) (rec:Hs):Prop := ∀ lv c r s h K,Le r s->w9 h->rec lv c r h K->∃ e r' s' h',Le r' s'/\K.on e r' h'/\Fr (jL c) s s'/\AF h h'/\T P rd c s h (fun e1 s1 h1=>e1=e/\s1=s'/\h1=h')
theorem Fg {D:Array Oper->Env->za->(Env->za->Prop)->Prop} (hD:Qe P D) {rd:Option Nat} {rec:Hs} (G:Good P rd rec):Good P rd (Mo P D rec):=by
 intro lv c r s h K hl wf hk
 cases c with
 | skip=>exact ⟨.normal,r,s,h,hl,hk,.refl _ _,.refl _,C0 ⟨rfl,rfl,rfl⟩⟩
 | label l=>exact ⟨.normal,r,s,h,hl,hk,.refl _ _,.refl _,tq ⟨rfl,rfl,rfl⟩⟩
 | exit id=>exact ⟨.exit id,r,s,h,hl,hk,.refl _ _,.refl _,CZ ⟨rfl,rfl,rfl⟩⟩
 | ret=>exact ⟨.ret,r,s,h,hl,hk,.refl _ _,.refl _,GF ⟨rfl,rfl,rfl⟩⟩
 | seq a b=>
   obtain ⟨e,r1,s1,h1,l1,k1,f1,a1,t1⟩:=G _ _ _ _ _ _ hl wf hk
   cases e with
   | normal=>
     obtain ⟨e2,r2,s2,h2,l2,k2,f2,a2,t2⟩:=G _ _ _ _ _ _ l1 (wf.af a1) k1
     refine ⟨e2,r2,s2,h2,l2,k2,f1.left.trans f2.right,a1.trans a2,tu (t1.mono ?_)⟩
     rintro e s3 h3 ⟨rfl,rfl,rfl⟩
     exact t2
   | ret=>
     refine ⟨.ret,r1,s1,h1,l1,k1,f1.left,a1,tu (t1.mono ?_)⟩
     rintro e s3 h3 ⟨rfl,rfl,rfl⟩
     exact ⟨rfl,rfl,rfl⟩
   | exit id=>
     refine ⟨.exit id,r1,s1,h1,l1,k1,f1.left,a1,tu (t1.mono ?_)⟩
     rintro e s3 h3 ⟨rfl,rfl,rfl⟩
     exact ⟨rfl,rfl,rfl⟩
 | cond x a b=>
   have fin:∀ (c:Code),(∀ s s1,Fr (jL c) s s1->Fr (jL a ||| jL b) s s1)->rec lv c r h (K.with fun s1 h1=>(fun vs h1=>K.mK (Va lv vs (bits (jL a ||| jL b) r.size) 0 r) h1) (Xf lv s1 (bits (jL a ||| jL b) r.size)) h1) ->
     ∃ e r' s' h',Le r' s'/\K.on e r' h'/\Fr (jL a ||| jL b) s s'/\AF h h'/\T P rd c s h (fun e1 s1 h1=>e1=e/\s1=s'/\h1=h'):=by
    intro c hf hk
    obtain ⟨e,r1,s1,h1,l1,k1,f1,a1,t1⟩:=G _ _ _ _ _ _ hl wf hk
    have f2:=hf _ _ f1
    cases e with
    | normal=>exact ⟨.normal,_,s1,h1,join_le hl l1 f2,k1,f2,a1,t1⟩
    | ret=>exact ⟨.ret,r1,s1,h1,l1,k1,f2,a1,t1⟩
    | exit id=>exact ⟨.exit id,r1,s1,h1,l1,k1,f2,a1,t1⟩
   unfold Mo at hk
   dsimp only at hk
   unfold CD at hk
   split at hk
   ·rename_i hx
    obtain ⟨e,r',s',h',q1,q2,q3,q4,t⟩:=fin a (fun _ _ f=>f.left) hk
    exact ⟨e,r',s',h',q1,q2,q3,q4,lq (t:=true) (by rw [jW hl (x:=x) (by rw [hx];rfl),hx]) t⟩
   ·rename_i hx
    obtain ⟨e,r',s',h',q1,q2,q3,q4,t⟩:=fin b (fun _ _ f=>f.right) hk
    exact ⟨e,r',s',h',q1,q2,q3,q4,lq (t:=false) (by rw [jW hl (x:=x) (by rw [hx];rfl),hx]) t⟩
   ·exact hk.elim
 | block id a=>
   have hk:rec lv a r h _:=hk
   obtain ⟨e,r1,s1,h1,l1,k1,f1,a1,t1⟩:=G _ _ _ _ _ _ hl wf hk
   cases e with
   | normal=>
     refine ⟨.normal,_,s1,h1,join_le hl l1 f1,k1,f1,a1,Q3 (t1.mono ?_)⟩
     rintro e s3 h3 ⟨rfl,rfl,rfl⟩
     rw [NJ (by simp)];exact ⟨rfl,rfl,rfl⟩
   | ret=>
     refine ⟨.ret,r1,s1,h1,l1,k1,f1,a1,Q3 (t1.mono ?_)⟩
     rintro e s3 h3 ⟨rfl,rfl,rfl⟩
     rw [NJ (by simp)];exact ⟨rfl,rfl,rfl⟩
   | exit i=>
     simp only [Ks.on] at k1
     by_cases hi:i=id
     ·subst hi
      rw [show Nat.beq i i=true from Pq i] at k1
      refine ⟨.normal,_,s1,h1,join_le hl l1 f1,k1,f1,a1,Q3 (t1.mono ?_)⟩
      rintro e s3 h3 ⟨rfl,rfl,rfl⟩
      rw [NK rfl];exact ⟨rfl,rfl,rfl⟩
     ·rw [Tr.beq_false hi] at k1
      refine ⟨.exit i,r1,s1,h1,l1,k1,f1,a1,Q3 (t1.mono ?_)⟩
      rintro e s3 h3 ⟨rfl,rfl,rfl⟩
      rw [NJ (by simpa using hi)];exact ⟨rfl,rfl,rfl⟩
 | scope a=>
   obtain ⟨e,r1,s1,h1,l1,k1,f1,a1,t1⟩:=G _ _ _ _ _ _ hl wf hk
   exact ⟨e,r1,s1,h1,l1,k1,f1,a1,tt t1⟩
 | loop a=>
   unfold Mo at hk
   dsimp only at hk
   obtain ⟨I,n,h0,hI⟩:=hk
   have key:∀ n r1 s1 h1,Le r1 s1->w9 h1->Fr (jL a) s s1->I n (Xf (lv ||| mM a) r1 (bits (jL a) r.size)) h1 ->
     ∃ e r' s' h',Le r' s'/\K.on e r' h'/\Fr (jL a) s s'/\AF h1 h'/\T P rd (.loop a) s1 h1 (fun e1 s2 h2=>e1=e/\s2=s'/\h2=h'):=by
    intro n
    induction n using Nat.strongRecOn with
    | _ n ih=>
      intro r1 s1 h1 l1 wf1 f1 hn
      have hstep:=hI n _ h1 hn
      obtain ⟨e,r2,s2,h2,l2,k2,f2,a2,t2⟩:=G _ _ _ _ _ _ (join_le hl l1 f1) wf1 hstep
      cases e with
      | normal=>
        obtain ⟨m,hm,k2⟩:=k2
        obtain ⟨e3,r3,s3,h3,l3,k3,f3,a3,t3⟩:=ih m hm r2 s2 h2 l2 (wf1.af a2) (f1.trans f2) k2
        refine ⟨e3,r3,s3,h3,l3,k3,f3,a2.trans a3,Xm (t2.mono ?_)⟩
        rintro e s4 h4 ⟨rfl,rfl,rfl⟩
        exact t3
      | ret=>
        refine ⟨.ret,r2,s2,h2,l2,k2,f1.trans f2,a2,Xm (t2.mono ?_)⟩
        rintro e s4 h4 ⟨rfl,rfl,rfl⟩
        exact ⟨rfl,rfl,rfl⟩
      | exit i=>
        refine ⟨.exit i,r2,s2,h2,l2,k2,f1.trans f2,a2,Xm (t2.mono ?_)⟩
        rintro e s4 h4 ⟨rfl,rfl,rfl⟩
        exact ⟨rfl,rfl,rfl⟩
   exact key n r s h hl wf (.refl _ _) h0
 | region id ops draw=>
   cases draw with
   | true=>
     obtain ⟨r',s',h',q1,q2,q3,q4,t⟩:=hD ops r s h K.mK rd id hl wf hk
     exact ⟨.normal,r',s',h',q1,q2,q3,q4,t⟩
   | false=>
     have hk:Fm P ops ops.toList r h K.mK:=hk
     obtain ⟨r',s',h',q1,q2,q3,q4,t⟩:=i9 ops.toList 0 (O7) hl wf hk
     refine ⟨.normal,r',s',h',q1,q2,q3,q4,mR ?_⟩
     rw [List.range_eq_range']
     rw [OI] at t
     exact (fun ρ w tm ds hr hs b k cs=>by
      obtain ⟨s1,h1,ρ1,w1,tm1,⟨e1,e2⟩,rest⟩:=t ρ w tm ds hr hs b k cs
      exact ⟨s1,h1,ρ1,w1,tm1,⟨rfl,e1,e2⟩,rest⟩)
 | _=>exact hk.elim
def RK (mK ret:za->Prop) (ext:Nat->za->Prop) (e:Ex) (h:za):Prop:=match e with
 | .normal=>mK h
 | .ret=>ret h
 | .exit i=>ext i h
def RF (P:Program) (f:Value) (params:Array Tmp) (as bd:Code) (s:Env) (h:za) (mK ret:za->Prop) (ext:Nat->za->Prop):Prop:=match f with
 | .func (.func g) a c=>vL P g=true /\ ∀ s1,Le s s1->DC P g (a.toList ++ [.func (.yield h.next) #[] #[]] ++ c.toList) (h.push (.loop { state := .ready,pending:=none,s:=s1,params:=params,assign:=as,body:=bd }))
   (fun _ h1 => ∃ A,h1.get h.next=some (.loop A)/\(A.state == .busy)=false/\h1.ro<=h.next /\ ∃ e,ZW e=A.pending/\RK mK ret ext e (h1.set h.next none))
 | _=>False
def M6 (P:Program) (D:Array Oper->Env->za->(Env->za->Prop)->Prop) (rec:Hs):Hs:=fun lv c s h K=>match c with
 | .rangeFunc f params as bd=>RF P (ev s f) params as bd s h (fun h1=>K.mK s h1) (fun h1=>K.ret s h1) (fun i h1=>K.ext i s h1)
 | c=>Mo P D rec lv c s h K
def M5 (P:Program) (D:Array Oper->Env->za->(Env->za->Prop)->Prop) (n:Nat):Hs:=Nat.rec (fun _ _ _ _ _=>False) (fun _ rec=>M6 P D rec) n
theorem rq {h:za} (w:w9 h) (o:wi):w9 (h.push o):=⟨fun b x hb=>by
 rw [za.wT] at hb
 show b < h.next + 1
 split at hb
 ·rename_i e;omega
 ·have:=w.1 b x hb;omega,OS w.2⟩
theorem CX {f:Operand} {params:Array Tmp} {as bd:Code} {r s:Env} {h:za} {mK ret:za->Prop} {ext:Nat->za->Prop} (hl:Le r s) (wf:w9 h) (hk:RF P (ev r f) params as bd r h mK ret ext) :
  ∃ e h',RK mK ret ext e h'/\AF h h'/\T P none (.rangeFunc f params as bd) s h (fun e1 s1 h1=>e1=e/\s1=s/\h1=h'):=by
 unfold RF at hk
 split at hk
 case h_2=>exact hk.elim
 rename_i g a c hf
 obtain ⟨hc,hd⟩:=hk
 obtain ⟨v,h1,⟨A,gA,bA,ro,e,je,kk⟩,af,t⟩:=hd s hl (rq wf _)
 have ef:qI s f=some (.func (.func g) a c):=by rw [jW hl (x:=f) (by rw [hf];rfl),hf]
 refine ⟨e,h1.set h.next none,kk,⟨?_,af.ro,fun b o hb => ?_⟩,ae ef hc (fun L q=>by cases q) (t.mono ?_)⟩
 ·have:=af.next
  show h.next<=h1.next
  have e1:(h.push (.loop { state := .ready,pending:=none,s:=s,params:=params,assign:=as,body:=bd })).next=h.next + 1:=rfl
  omega
 ·rw [za.yj] at hb
  split at hb
  ·cases hb
  ·rename_i hne
   rcases af.alive b o hb with q | q
   ·rw [za.wT,NJ hne] at q
    exact .inl q
   ·have e1:(h.push (.loop { state := .ready,pending:=none,s:=s,params:=params,assign:=as,body:=bd })).next=h.next + 1:=rfl
    refine .inr ⟨by omega,?_⟩
    exact q.2
 ·rintro v1 h2 ⟨_,rfl⟩
  exact ⟨A,gA,bA,ro,e,je,rfl,rfl,rfl⟩
theorem ru {D:Array Oper->Env->za->(Env->za->Prop)->Prop} (hD:Qe P D):∀ n,Good P none (M5 P D n)
 | 0=>fun _ _ _ _ _ _ _ _ hk=>hk.elim
 | n + 1=>fun lv c r s h K hl wf hk=>by
   have key:Mo P D (M5 P D n) lv c r h K->_:=fun q=>Fg hD (ru hD n) lv c r s h K hl wf q
   cases c with
   | rangeFunc f params as bd=>
     obtain ⟨e,h',kk,af,t⟩:=CX hl wf hk
     exact ⟨e,r,s,h',hl,by cases e <;> exact kk,.refl _ _,af,t⟩
   | _=>exact key hk
def rv (vs:List Value) (h:za) (R:Value->za->Prop):Prop:=yB vs=true/\R (jM vs) h
def ER (P:Program):List ResultVar->Env->za->(List Value->Prop)->Prop
 | [],s,h,K=>K []
 | .tmp t :: rs,s,h,K=>ER P rs s h fun vs=>K (s.get t :: vs)
 | .cell a t :: rs,s,h,K=>opt (zc P t (s.get a) h) fun v=>ER P rs s h fun vs=>K (v :: vs)
def It:List ResultVar->Nat
 | []=>0
 | .tmp t :: rs=>(1 <<< t) ||| It rs
 | .cell a _ :: rs=>(1 <<< a) ||| It rs
def Fi (P:Program) (D:Array Oper->Env->za->(Env->za->Prop)->Prop) (n:Nat) (f:FuncId) (args:List Value) (h:za) (R:Value->za->Prop):Prop :=
 match P.funcs[f]? with
 | some fn=>(match fn.body with
   | some c=>M5 P D n (It fn.results.toList) c (Env.enter args fn.ntmps) h ⟨fun s h=>ER P fn.results.toList s h fun vs=>rv vs h R,fun s h=>ER P fn.results.toList s h fun vs=>rv vs h R,fun _ _ _=>False⟩
   | none=>False)
 | none=>False
theorem Vb {r s:Env} {h:za} (hl:Le r s):∀ {rs:List ResultVar} {K:List Value->Prop},ER P rs r h K->(∀ vs,K vs->yB vs=true)->∃ vs,uK P s h rs=some vs/\K vs
 | [],K,hk,_=>⟨[],rfl,hk⟩
 | .tmp t :: rs,K,hk,hn=>by
   obtain ⟨vs,e,q⟩:=Vb hl (rs:=rs) hk (fun vs q=>by
    have:=hn _ q
    simp only [yB] at this
    cases hb:ya (r.get t) with
    | true=>rw [hb] at this;cases this
    | false=>rw [hb] at this;exact this)
   have hb:ya (r.get t)=false:=by
    have:=hn _ q
    simp only [yB] at this
    cases hb:ya (r.get t) with
    | true=>rw [hb] at this;cases this
    | false=>rfl
   have et:r.get t=s.get t:=by
    rcases hl.get t with e | e
    ·rw [e] at hb;cases hb
    ·exact e
   exact ⟨_,by simp only [uK,e,<- et],q⟩
 | .cell a t :: rs,K,hk,hn=>by
   obtain ⟨v,ev,hk⟩:=uB hk
   have et:r.get a=s.get a:=by
    rcases hl.get a with e | e
    ·obtain ⟨k,p,q,e2⟩:=Yl e;rw [e2] at ev;cases ev
    ·exact e
   obtain ⟨vs,e,q⟩:=Vb hl (rs:=rs) hk (fun vs q=>by
    have:=hn _ q
    simp only [yB] at this
    cases hb:ya v with
    | true=>rw [hb] at this;cases this
    | false=>rw [hb] at this;exact this)
   exact ⟨_,by simp only [uK,<- et,ev,e],q⟩
theorem Jo {D:Array Oper->Env->za->(Env->za->Prop)->Prop} (hD:Qe P D) {n:Nat} {f:FuncId} {args:List Value} {h:za} {R:Value->za->Prop} (hk:Fi P D n f args h R):DC P f args h R:=by
 intro wf
 unfold Fi at hk
 split at hk
 case h_2=>exact hk.elim
 rename_i fn hf
 split at hk
 case h_2=>exact hk.elim
 rename_i c hb
 obtain ⟨e,r1,s1,h1,l1,k1,_,a1,t1⟩:=ru hD n _ _ _ _ _ _ (.refl _) wf hk
 have fin:∀ {e:Ex},(e = .normal\/e = .ret)->(∃ vs,uK P s1 h1 fn.results.toList=some vs/\yB vs=true/\R (jM vs) h1)->T P none c (Env.enter args fn.ntmps) h (fun e1 s2 h2=>e1=e/\s2=s1/\h2=h1) ->
   ∃ v h1,R v h1/\AF h h1/\TC P f args h (fun v' h'=>v'=v/\h'=h1):=by
  rintro e he ⟨vs,e1,_,q⟩ t
  refine ⟨_,h1,q,a1,tj hf hb (t.mono ?_)⟩
  rintro e s2 h2 ⟨rfl,rfl,rfl⟩
  exact ⟨he,vs,e1,rfl,rfl⟩
 cases e with
 | normal=>
   obtain ⟨vs,e,q⟩:=Vb l1 k1 (fun vs q=>q.1)
   exact fin (.inl rfl) ⟨vs,e,q⟩ t1
 | ret=>
   obtain ⟨vs,e,q⟩:=Vb l1 k1 (fun vs q=>q.1)
   exact fin (.inr rfl) ⟨vs,e,q⟩ t1
 | exit id=>exact k1.elim
end
end Go.Ai
