/- A part of the proof. -/
import Derived.Test.YtcecapkbglnejaaDoorTN
set_option linter.unusedVariables false
set_option linter.unusedSimpArgs false
set_option maxRecDepth 100000
namespace Go.As
open Go.Ai Go.Proofs Go.Mem Go.Rm
open Go.Rtl (zG zX Old xG w7 inc wM xC)
section
variable {lo:yQ} {h:za} {L:List HP} {ty:TypeId} {n:Nat} {sv:Value} {rows:List (List Value)}
theorem cC (s:Sat lo h (qy ty n sv rows :: L)) (hn:∀ r,r ∈ rows->r.length=n) {i:Nat} {row:List Value} (hr:rows[i]? = some row) :
  ∃ q c cs,sv = .slice (some ⟨q,0,none⟩) rows.length c/\h.get q=some (.cells cs ty)/\h.ro<=q/\q < h.next/\i * n + n<=cs.length/\(cs.drop (i * n)).take n=row/\(∀ k,k < n->cs[i * n + k]? = row[k]?) /\ ∀ j vs,j + vs.length<=n->Sat lo (h.set q (some (.cells (ze cs (i * n + j) vs) ty))) (qy ty n sv (rows.set i (ze row j vs)) :: L):=by
 have hi:i < rows.length:=by
  rcases MX i rows.length with a | a
  ·exact a
  ·rw [MO a] at hr;cases hr
 have hrl:=hn row (Np hr)
 have R:=Zh s hn
 obtain ⟨b',o,c',t',⟨off,cp,e1,rfl⟩,_,hb,hg,hl,ht,hk⟩:=R.spot hr hrl
 obtain ⟨q,c,cs,e2,gq,wq,lq,s2⟩:=ER s hn hi
 rw [e1] at e2
 simp only [Of,My,OC,NB,Oq] at e2
 obtain ⟨⟨rfl,rfl⟩,rfl⟩:=e2
 rw [gq] at hg
 simp only [My,xS.cells.injEq] at hg
 obtain ⟨rfl,rfl⟩:=hg
 rw [MT] at ht hl
 simp only [MT] at hk
 refine ⟨b',cp,cs,e1,gq,wq,hb,lq,ht,hk,fun j vs hj => ?_⟩
 have e:ze cs (i * n + j) vs=ze cs (i * n) (ze row j vs):=by
  apply N1
  intro x
  rw [Zc (ze row j vs) cs (i * n) x (by rw [uU,hrl];exact lq),uU,hrl,Zc vs cs _ x (by omega)]
  by_cases hx:i * n<=x/\x < i * n + n
  ·rw [MK hx,Zc vs row j _ (by omega)]
   by_cases hxj:i * n + j<=x/\x < i * n + j + vs.length
   ·rw [MK hxj,MK (by omega)];congr 1;omega
   ·rw [MJ hxj,MJ (by omega),<- hk (x - i * n) (by omega)];congr 1;omega
  ·rw [MJ hx,MJ (by omega)]
 rw [e]
 exact s2 _ (by rw [uU];exact hrl)
theorem Df {q i j:Nat} {cs row vs:List Value} {K:za->Prop} (gq:h.get q=some (.cells cs ty)) (wq:h.ro<=q) (lq:i * n + n<=cs.length) (s3:∀ j vs,j + vs.length<=n->Sat lo (h.set q (some (.cells (ze cs (i * n + j) vs) ty))) (qy ty n sv (rows.set i (ze row j vs)) :: L)) (hj:j + vs.length<=n) (hc:vs.all xE=true)
  (k:∀ h',Sat lo h' (qy ty n sv (rows.set i (ze row j vs)) :: L)->K h'):opt (xU h q (i * n + j) vs) K:=by
 rw [Dx gq,MK ⟨by omega,wq,hc⟩]
 exact k _ (s3 j vs hj)
end
def wQ (c:Fr):List Value:=[.int .i64 (c.f:Nat),.int .i64 c.pt,.int .i64 c.jU,.int .i64 c.size,.int .i64 c.bV.k,.int .i64 c.bV.n,.int .i64 c.bV.b]
def yY (p:Pg) (lv:Value) (mb wb:Nat) (S:St) (ev lk gl cl:Value) (lim:Int):xS := .cells (xY p lv mb wb S ev lk gl cl lim) 89
theorem mx (a b:Int) (r:TypeId) (h:za):zo Tryd.prog .max [3,3] r [.int .i64 a,.int .i64 b] h=some (.int .i64 (max a b),h):=by
 have e0:zU Tryd.prog (Builtin.max_ #[3,3] r #[.int .i64 a,.int .i64 b])=some (.int .i64 (if b > a then b else a)):=rfl
 have e:(if b > a then b else a)=max a b:=by split <;> omega
 rw [e] at e0
 show (cond (List.all [Value.int .i64 a,.int .i64 b] flat) ((fl (zU Tryd.prog (Builtin.max_ #[3,3] r #[.int .i64 a,.int .i64 b]))).map fun v=>(v,h)) none)=_
 rw [e0];rfl
section
variable {lo:yQ} {h:za} {b mb wb:Nat} {p:Pg} {S:St} {lv ev lk gl cl:Value} {lim:Int}
theorem iu (s:Sat lo h [pt b (yY p lv mb wb S ev lk gl cl lim),qy 41 3 lk (S.lk.map vA)]) (hb:(S.lk.length + 1) * 24<=2 ^ 47) (k_ a c:Int) :
  DC Tryd.prog 70 [yZ b,.int .i64 k_,.int .i64 a,.int .i64 c] h (fun _ h' => ∃ lk',Sat lo h' [pt b (yY p lv mb wb (vo S k_ a c) ev lk' gl cl lim),qy 41 3 lk' ((vo S k_ a c).lk.map vA)]):=by
 apply tL
 unfold ov yZ
 have gm:=s.get
 unfold yY at gm
 have n0:=qx (s.p 1)
 have s1:=s.push (.cells [.int .i64 k_,.int .i64 a,.int .i64 c] 41)
 obtain ⟨b',c',h2,a1,s2⟩:=UY (s1.p 2) (qE (f:=vA) (fun _=>rfl) _) [.int .i64 k_,.int .i64 a,.int .i64 c] rfl (by decide) 24 (by rw [Nf];exact hb)
 rw [Nf] at a1 s2
 have ha:∀ r,zo Tryd.prog .append [32,32] r [lk,.slice (some ⟨h.next,0,none⟩) 1 3] (h.push (.cells [.int .i64 k_,.int .i64 a,.int .i64 c] 41))=some (.slice (some ⟨b',0,none⟩) (S.lk.length + 1) c',h2):=fun r=>by
  rw [HJ r _ _ 1 [.int .i64 k_,.int .i64 a,.int .i64 c] _ rfl (by simp only [wW,z7];rfl) rfl rfl]
  exact a1
 simp -implicitDefEqProofs only [EE,Nat.reduceAdd,zL,Kj,HQ,mj,Ao,Yp,ks,gm,IM,n0,ha]
 refine xx (s2.p 2) (by simp [wC]) rfl fun h3 s3 => ?_
 rw [IQ] at s3
 simp -implicitDefEqProofs only [XO]
 refine ⟨.slice (some ⟨b',0,none⟩) (S.lk.length + 1) c',?_⟩
 have e1:((vo S k_ a c).lk.map vA)=S.lk.map vA ++ [[.int .i64 k_,.int .i64 a,.int .i64 c]]:=by simp [vo,vA]
 rw [e1]
 exact s3.k [0,1]
theorem ss (s:Sat lo h [pt b (yY p lv mb wb S ev lk gl cl lim),qy 69 2 ev (S.ev.map qu)]) (hb:(S.ev.length + 1) * 16<=2 ^ 47) (k_ a:Int) :
  DC Tryd.prog 74 [yZ b,.int .i64 k_,.int .i64 a] h (fun _ h' => ∃ ev',Sat lo h' [pt b (yY p lv mb wb (uT S k_ a) ev' lk gl cl lim),qy 69 2 ev' ((uT S k_ a).ev.map qu)]):=by
 apply og
 unfold gB yZ
 have gm:=s.get
 unfold yY at gm
 have n0:=qx (s.p 1)
 have s1:=s.push (.cells [.int .i64 k_,.int .i64 a] 69)
 obtain ⟨b',c',h2,a1,s2⟩:=UY (s1.p 2) (qE (f:=qu) (fun _=>rfl) _) [.int .i64 k_,.int .i64 a] rfl (by decide) 16 (by rw [Nf];exact hb)
 rw [Nf] at a1 s2
 have ha:∀ r,zo Tryd.prog .append [31,31] r [ev,.slice (some ⟨h.next,0,none⟩) 1 3] (h.push (.cells [.int .i64 k_,.int .i64 a] 69))=some (.slice (some ⟨b',0,none⟩) (S.ev.length + 1) c',h2):=fun r=>by
  rw [HI r _ _ 1 [.int .i64 k_,.int .i64 a] _ rfl (by simp only [wW,z7];rfl) rfl rfl]
  exact a1
 simp -implicitDefEqProofs only [EE,Nat.reduceAdd,zL,r7,HO,Ag,An,KW,ks,gm,LZ,n0,ha]
 refine xx (s2.p 2) (by simp [wC]) rfl fun h3 s3 => ?_
 rw [L8] at s3
 simp -implicitDefEqProofs only [XO]
 refine ⟨.slice (some ⟨b',0,none⟩) (S.ev.length + 1) c',?_⟩
 have e1:((uT S k_ a).ev.map qu)=S.ev.map qu ++ [[.int .i64 k_,.int .i64 a]]:=by simp [uT,qu]
 rw [e1]
 exact s3.k [0,1]
structure Hx (lim:Int) (S:St):Prop where
 l0:0<=lim
 l1:lim < 4294967296
 s0 : -4611686018427387904<=S.stack
 s1:S.stack < 4294967296
theorem CR {L:List HP} (s:Sat lo h (pt b (yY p lv mb wb S ev lk gl cl lim) :: L)) (hs:Hx lim S) {n:Int} (n0:0<=n) (n1:n < 4294967296) :
  DC Tryd.prog 62 [yZ b,.int .i64 n] h (fun v h'=>v = .bool (xD lim S n).2/\Sat lo h' (pt b (yY p lv mb wb (xD lim S n).1 ev lk gl cl lim) :: L)):=by
 apply tI
 unfold oq yZ
 have gm:=s.get
 unfold yY at gm
 obtain ⟨l0,l1,q0,q1⟩:=hs
 have w1:IntKind.wrap .i64 (lim - S.stack)=lim - S.stack:=Go.Mem.kC (by omega) (by omega)
 by_cases hc:n > lim - S.stack
 ·simp -implicitDefEqProofs only [EE,zL,zu,ZV,km,Wg,mM,ks,lG,gm,np,FG,w1,hc]
  refine xx s (by simp [wC]) rfl fun h3 s3 => ?_
  rw [G4] at s3
  simp -implicitDefEqProofs only [EE]
  have e:xD lim S n=({ S with kind:=4 },false):=by unfold xD;rw [MK hc]
  rw [e]
  exact ⟨rfl,s3⟩
 ·have w2:IntKind.wrap .i64 (S.stack + n)=S.stack + n:=Go.Mem.kC (by omega) (by omega)
  simp -implicitDefEqProofs only [EE,zL,zu,ZV,Wg,mM,lH,gm,np,FG,w1,w2,hc]
  refine xx s (by simp [wC]) rfl fun h3 s3 => ?_
  rw [Dn] at s3
  have g3:=s3.get
  simp -implicitDefEqProofs only [EE,zL,zu,ZV,Wg,mN,g3,np,FH,mx]
  refine xx s3 (by simp [wC]) rfl fun h4 s4 => ?_
  rw [IW] at s4
  simp -implicitDefEqProofs only [EE]
  have e:xD lim S n=({ S with stack:=S.stack + n,iB:=max S.iB (S.stack + n) },true):=by unfold xD;rw [MJ hc]
  rw [e]
  exact ⟨rfl,s4⟩
end
theorem aI (l:List Fr):∀ r,r ∈ l.map wQ->r.length=7:=qE (f:=wQ) (fun _=>rfl) l
section
variable {lo:yQ} {h:za} {L:List HP} {b mb wb:Nat} {p:Pg} {S:St} {lv ev lk gl cl:Value} {lim:Int}
theorem so (s:Sat lo h [pt b (yY p lv mb wb S ev lk gl cl lim),qy 105 7 cl (S.calls.map wQ)]) (hs:Hx lim S) (hc:(S.calls.length + 1) * 56<=2 ^ 47) (f:Nat) :
  DC Tryd.prog 47 [yZ b,.int .i64 (f:Nat)] h (fun _ h' => ∃ cl',Sat lo h' [pt b (yY p lv mb wb (xX lim S f) ev lk gl cl' lim),qy 105 7 cl' ((xX lim S f).calls.map wQ)]):=by
 apply od
 unfold gz yZ
 refine zW (by kernel_rfl) rfl (CR s hs (n:=8) (by decide) (by decide)) ?_
 rintro v h2 ⟨rfl,s2⟩
 have en:(xD lim S 8).1.calls=S.calls:=by unfold xD;split <;> rfl
 cases hg:(xD lim S 8).2 with
 | false=>
   simp -implicitDefEqProofs only [EE,XO]
   have e:xX lim S f=(xD lim S 8).1:=by unfold xX;rw [hg];rfl
   rw [e,en]
   exact ⟨cl,s2⟩
 | true=>
   have e:xX lim S f = { (xD lim S 8).1 with calls:=S.calls ++ [⟨f,0,0,0,v0⟩] }:=by unfold xX;rw [hg,MK rfl,en]
   have gm:=s2.get
   unfold yY at gm
   have n0:=qx (s2.p 1)
   have s3:=s2.push (.cells (wQ ⟨f,0,0,0,v0⟩) 105)
   obtain ⟨b',c',h4,a1,s4⟩:=UY (s3.p 2) (aI _) (wQ ⟨f,0,0,0,v0⟩) rfl (by decide) 56 (by rw [Nf];exact hc)
   rw [Nf] at a1 s4
   have ha:∀ r,zo Tryd.prog .append [84,84] r [cl,.slice (some ⟨h2.next,0,none⟩) 1 3] (h2.push (.cells [.int .i64 (f:Nat),.int .i64 0,.int .i64 0,.int .i64 0,.int .i64 0,.int .i64 0,.int .i64 0] 105))=some (.slice (some ⟨b',0,none⟩) (S.calls.length + 1) c',h4):=fun r=>by
    rw [HL r _ _ 1 (wQ ⟨f,0,0,0,v0⟩) _ rfl (by simp only [wW,z7];rfl) rfl rfl]
    exact a1
   simp -implicitDefEqProofs only [EE,zL,r8,Fi,Cm,Aq,KY,dK,gm,sK,n0,ha]
   refine xx (s4.p 2) (by simp [wC]) rfl fun h5 s5 => ?_
   rw [FK] at s5
   simp -implicitDefEqProofs only [XO]
   refine ⟨.slice (some ⟨b',0,none⟩) (S.calls.length + 1) c',?_⟩
   have e1:(xX lim S f).calls.map wQ=S.calls.map wQ ++ [wQ ⟨f,0,0,0,v0⟩]:=by rw [e];simp
   rw [e1,e]
   exact s5.k [0,1]
theorem iF {to:Int} (h0:0<=to) (h1:to < 16) (hl:S.jx.length=16) (o:Option V):ze (xY p lv mb wb S ev lk gl cl lim) (14 + to.toNat * 3) [.int .i64 (o.getD v0).k,.int .i64 (o.getD v0).n,.int .i64 (o.getD v0).b]=xY p lv mb wb (wh S to o).1 ev lk gl cl lim:=cA h0 h1 hl (o.getD v0)
theorem Ko (s:Sat lo h (pt b (yY p lv mb wb S ev lk gl cl lim) :: L)) (hl:S.jx.length=16) {to:Int} (h0:0<=to) (h1:to < 16) (op:Int) (a c:V) :
  DC Tryd.prog 64 [yZ b,.int .i64 op,.int .i64 to,vv a,vv c] h (fun v h'=>v = .bool (wh S to (yf op a c)).2/\Sat lo h' (pt b (yY p lv mb wb (wh S to (yf op a c)).1 ev lk gl cl lim) :: L)):=by
 apply BG
 unfold BE yZ
 simp -implicitDefEqProofs only [EE,Value.cells]
 refine wy s fun b1 h2 s2 => ?_
 simp -implicitDefEqProofs only [EE,yb,zn]
 refine wy s2 fun b2 h3 s3 => ?_
 have g1:=(s3.p 1).get
 have g2:=s3.get
 simp -implicitDefEqProofs only [EE,MA,Nat.reduceAdd,yb,zn,g1,g2]
 refine zj (by kernel_rfl) rfl (Cr op a c _) ?_
 rw [yS]
 simp -implicitDefEqProofs only [EE,Value.cells,wi,rS]
 refine wy s3 fun b3 h4 s4 => ?_
 simp -implicitDefEqProofs only [EE,Nat.reduceAdd,zF]
 refine xx s4 (by simp) rfl fun h5 s5 => ?_
 have g3:=s5.get
 have gm:=(s5.p 3).get
 unfold yY at gm
 simp -implicitDefEqProofs only [EE,ze,MA,Nat.reduceAdd,yb,zn,zF,xI,vO,g3,h0,h1]
 refine xx (s5.p 3) (by rw [wC];simp;omega) rfl fun h6 s6 => ?_
 rw [iF h0 h1 hl] at s6
 simp -implicitDefEqProofs only [EE]
 exact ⟨rfl,((((s6.p 1).drop.p 1).drop).p 1).drop⟩
theorem I8 (s:Sat lo h (pt b (yY p lv mb wb S ev lk gl cl lim) :: L)) (hl:S.jx.length=16) {to:Int} (h0:0<=to) (h1:to < 16) (op:Int) (a:V) :
  DC Tryd.prog 66 [yZ b,.int .i64 op,.int .i64 to,vv a] h (fun v h'=>v = .bool (wh S to (KJ op a)).2/\Sat lo h' (pt b (yY p lv mb wb (wh S to (KJ op a)).1 ev lk gl cl lim) :: L)):=by
 apply DS
 unfold FX yZ
 simp -implicitDefEqProofs only [EE,Value.cells]
 refine wy s fun b1 h2 s2 => ?_
 have g1:=s2.get
 simp -implicitDefEqProofs only [EE,MA,Nat.reduceAdd,yb,zn,g1]
 refine zj (by kernel_rfl) rfl (L9 op a _) ?_
 rw [yS]
 simp -implicitDefEqProofs only [EE,Value.cells,wi,BN]
 refine wy s2 fun b3 h4 s4 => ?_
 simp -implicitDefEqProofs only [EE,Nat.reduceAdd,zF]
 refine xx s4 (by simp) rfl fun h5 s5 => ?_
 have g3:=s5.get
 have gm:=(s5.p 2).get
 unfold yY at gm
 simp -implicitDefEqProofs only [EE,ze,MA,Nat.reduceAdd,yb,zn,zF,xI,vO,g3,h0,h1]
 refine xx (s5.p 2) (by rw [wC];simp;omega) rfl fun h6 s6 => ?_
 rw [iF h0 h1 hl] at s6
 simp -implicitDefEqProofs only [EE]
 exact ⟨rfl,((s6.p 1).drop.p 1).drop⟩
end
theorem Dp (a:V) (h:za):wS Tryd.prog 67 [vv a] h (vv (Y8 a)):=by
 apply jr rfl
 apply tP
 unfold oD
 have s0:Sat ⟨fun _=>none,h.lock.ro⟩ h.lock []:=⟨rfl,MI _,fun b x e=>by cases e⟩
 simp -implicitDefEqProofs only [EE,Value.cells,wi]
 refine wy s0 fun b1 h2 s2 => ?_
 simp -implicitDefEqProofs only [EE,zL,xz,xi]
 refine wy s2 fun b2 h3 s3 => ?_
 have g1:=(s3.p 1).get
 simp -implicitDefEqProofs only [EE,Int.reduceLE,Int.reduceToNat,g1]
 rw [show min 63 IntKind.i64.bits=63 from rfl]
 refine zj (by kernel_rfl) rfl (qS _ h3) ?_
 simp -implicitDefEqProofs only [EE,Nat.reduceAdd,zF]
 refine xx s3 (by simp) rfl fun h4 s4 => ?_
 have g4:=s4.get
 simp -implicitDefEqProofs only [EE,ze,MA,Nat.reduceAdd,yb,zn,g4]
 rfl
theorem Hg (n:Int):jw (Go.Rm.kC n):=by
 unfold Go.Rm.kC jw
 simp only [IntKind.wrap,IntKind.bits,IntKind.signed]
 constructor <;> simp <;> omega
theorem DT {a q:V} {k:Int} (ha:vb a) (h:yf 11 a (vJ k)=some q) (h2:q.k=2):q.ok:=by
 have hb:=WA ha (XX k) h
 have hi:isInt (vJ k)=true:=rfl
 have hp:wR (vJ k)=false:=rfl
 have hn:jw q.n:=by
  unfold yf at h
  rw [hi,hp] at h
  cases h1:isInt a with
  | true=>
    rw [h1] at h
    have h:some (vJ (Go.Rm.kC (a.n + (vJ k).n)))=some q:=h
    cases h;cases h2
  | false=>
    rw [h1] at h
    cases h3:wR a with
    | true=>
      rw [h3] at h
      have h:some (fw a.b (Go.Rm.kC (a.n + (vJ k).n)))=some q:=h
      cases h
      unfold fw
      split
      ·exact YI
      ·exact Hg _
    | false=>
      rw [h3] at h
      have h:(none:Option V)=some q:=h
      cases h
 exact ⟨by rw [h2];exact ⟨by decide,by decide⟩,hn,hb⟩
section
variable {lo:yQ} {h:za} {L:List HP} {b mb wb:Nat} {p:Pg} {S:St} {lv ev lk gl cl:Value} {lim:Int} {i:qt}
theorem lW (s:Sat lo h [pt b (yY p lv mb wb S ev lk gl cl lim),qy 41 3 lk (S.lk.map vA),jq mb S.mem]) (hL:(S.lk.length + 1) * 24<=2 ^ 47) (hl:S.jx.length=16) (hv:∀ r,vb (zv S r)) (hs:small S.mem) (hsub:jw i.sub) (m0:0<=i.m) (m1:i.m < 16) (r0:0<=i.r) (r1:i.r < 16) :
  DC Tryd.prog 63 [yZ b,i.val] h (fun v h'=>v = .bool (yC S i).2 /\ ∃ lk',Sat lo h' [pt b (yY p lv mb wb (yC S i).1 ev lk' gl cl lim),qy 41 3 lk' ((yC S i).1.lk.map vA),jq mb (yC S i).1.mem]):=by
 apply Zq;intro wf
 apply ly
 unfold Jk yZ
 simp -implicitDefEqProofs only [EE,Value.cells]
 refine sH s wf fun b1 h2 wf2 s2 => ?_
 have g1:=s2.get
 have gm:=(s2.p 1).get
 unfold yY at gm
 simp -implicitDefEqProofs only [EE,MA,yb,zL,xz,zu,zn,wt,y7,xI,vO,g1,gm,m0,m1,qf m1,qe m0 m1]
 refine vU (by kernel_rfl) rfl (qS i.k _) ?_
 refine vU (by kernel_rfl) rfl (Cr 11 (zv S i.m) (vJ i.k) _) ?_
 rw [yS]
 simp -implicitDefEqProofs only [EE,Value.cells,wi,Jp]
 cases hb:yf 11 (zv S i.m) (vJ i.k) with
 | none=>
   have e:yC S i=(S,false):=by unfold yC;rw [hb]
   rw [e]
   simp -implicitDefEqProofs only [Option.getD_none,v0]
   refine wy s2 fun b3 h3 s3 => ?_
   simp -implicitDefEqProofs only [EE,Nat.reduceAdd,zF]
   refine xx s3 (by simp) rfl fun h4 s4 => ?_
   simp -implicitDefEqProofs only [EE,Xm,Option.isSome_none]
   exact ⟨lk,s4.k [2,3,4]⟩
 | some q=>
   simp -implicitDefEqProofs only [Ol]
   refine sH s2 wf2 fun b3 h3 wf3 s3 => ?_
   simp -implicitDefEqProofs only [EE,Nat.reduceAdd,zF]
   refine xx s3 (by simp) rfl fun h4 s4 => ?_
   have g4:=s4.get
   by_cases hk:q.k=2
   ·have hq:=DT (hv i.m) hb hk
    simp -implicitDefEqProofs only [EE,ze,Nat.reduceAdd,zL,xz,zu,xk,xi,wO,Jo,Xm,Option.isSome_some,g4,hk]
    obtain ⟨lo1,l1,s5,fr⟩:=(s4.f [2,3]).call (L2:=[pt b (yY p lv mb wb S ev lk gl cl lim),qy 41 3 lk (S.lk.map vA)])
    refine zW (by kernel_rfl) rfl ((iu s5 hL 2 q.b q.n).Im fun v h' x w=>And.intro x w) ?_
    rintro v h5 ⟨⟨lk',s6⟩,wf5⟩
    have s7:=fr _ _ s6
    have g3:=(s7.p 2).get
    have g1:=(s7.p 3).get
    have gm:=s7.get
    unfold yY at gm
    by_cases h4:i.op=4
    ·have e1:Yc S.mem i.sub q (zv S i.r)=none->yC S i=(vo S 2 q.b q.n,false):=fun z=>by unfold yC;rw [hb];simp only [MK hk,MK h4,z]
     have e2:∀ M,Yc S.mem i.sub q (zv S i.r)=some M->yC S i=({ vo S 2 q.b q.n with mem:=M },true):=fun M z=>by unfold yC;rw [hb];simp only [MK hk,MK h4,z]
     simp -implicitDefEqProofs only [EE,yb,zL,zu,fk,zn,zh,yz,WW,Jl,Vt,g1,h4]
     simp -implicitDefEqProofs only [EE,ze,MA,Nat.reduceAdd,yb,zL,zu,zn,vz,xI,vO,g1,g3,gm,AV,r0,r1,qf r1,qe r0 r1]
     obtain ⟨lo2,l2,s8,fr2⟩:=(s7.f [4]).call (L2:=[jq mb S.mem])
     refine vF (by kernel_rfl) rfl (EV (v:=zv S i.r) s8 hs hsub hq) ?_
     rintro v h6 ⟨rfl,s9⟩
     have s10:=fr2 _ _ s9
     simp -implicitDefEqProofs only [EE]
     cases hst:Yc S.mem i.sub q (zv S i.r) with
     | none=>rw [hst] at s10;rw [e1 hst];exact ⟨rfl,lk',s10.k [1,2,0]⟩
     | some M=>rw [hst] at s10;rw [e2 M hst];exact ⟨rfl,lk',s10.k [1,2,0]⟩
    ·have e0:yC S i=wh (vo S 2 q.b q.n) i.r (Wp S.mem i.sub q):=by unfold yC;rw [hb];simp only [MK hk,MJ h4]
     simp -implicitDefEqProofs only [EE,yb,zL,zu,fk,zn,zh,vz,yz,WW,Jn,Vt,g1,h4]
     simp -implicitDefEqProofs only [EE,ze,MA,Nat.reduceAdd,g3,gm,AV]
     refine g9 (by kernel_rfl) rfl wf5 (s7.f [4]) (GI (s7.f [4]) hs hsub hq) ?_
     rintro v h6 ⟨rfl,s8⟩ back _
     have s9:=back _ s8
     clear back
     rw [List.nil_append] at s9
     have gm:=(s9.p 1).get
     unfold yY at gm
     rw [yS]
     simp -implicitDefEqProofs only [EE,MA,Nat.reduceAdd,zF,xI,vO,Jm,r0,r1]
     refine xx (s9.p 1) (by rw [wC];simp;omega) rfl fun h7 s10 => ?_
     rw [iF r0 r1 (S:=vo S 2 q.b q.n) hl] at s10
     simp -implicitDefEqProofs only [EE]
     rw [e0]
     exact ⟨rfl,lk',s10.k [0,2,1]⟩
   ·have e:yC S i=(S,false):=by unfold yC;rw [hb];simp only [MJ hk]
    rw [e]
    simp -implicitDefEqProofs only [EE,ze,Nat.reduceAdd,zL,zu,xk,Xm,Option.isSome_some,g4,hk]
    exact ⟨lk,s4.k [2,3,4]⟩
end
theorem Cw:Nat.beq (Tryd.prog.cellsOf 105) 7=true:=by kernel_rfl
theorem D6 {c:Nat} (hc:c ≠ 0):VD c 0=c:=by
 match c with
 | 0=>exact absurd rfl hc
 | 1=>rfl
 | k + 2=>rfl
section
variable {lo:yQ} {h:za} {L:List HP} {b mb wb:Nat} {p:Pg} {S:St} {lv ev lk gl cl:Value} {lim:Int} {i:qt} {mv:V}
theorem iE:((xY p lv mb wb S ev lk gl cl lim).drop 14).take 3 = [.int .i64 (zv S 0).k,.int .i64 (zv S 0).n,.int .i64 (zv S 0).b]:=qe (r:=0) (by decide) (by decide)
theorem EI:((xY p lv mb wb S ev lk gl cl lim).drop 20).take 3 = [.int .i64 (zv S 2).k,.int .i64 (zv S 2).n,.int .i64 (zv S 2).b]:=qe (r:=2) (by decide) (by decide)
theorem EJ:((xY p lv mb wb S ev lk gl cl lim).drop 26).take 3 = [.int .i64 (zv S 4).k,.int .i64 (zv S 4).n,.int .i64 (zv S 4).b]:=qe (r:=4) (by decide) (by decide)
theorem EH:((xY p lv mb wb S ev lk gl cl lim).drop 17).take 3 = [.int .i64 (zv S 1).k,.int .i64 (zv S 1).n,.int .i64 (zv S 1).b]:=qe (r:=1) (by decide) (by decide)
theorem Cz (s:Sat lo h [pt b (yY p lv mb wb S ev lk gl cl lim),qy 41 3 lk (S.lk.map vA)]) (hL:(S.lk.length + 1) * 24<=2 ^ 47) (hl:S.jx.length=16) :
  DC Tryd.prog 68 [yZ b,vv mv] h (fun v h'=>v = .bool (q9 S mv).2 /\ ∃ lk',Sat lo h' [pt b (yY p lv mb wb (q9 S mv).1 ev lk' gl cl lim),qy 41 3 lk' ((q9 S mv).1.lk.map vA)]):=by
 apply lA
 unfold Jz yZ
 simp -implicitDefEqProofs only [EE,Value.cells,MA,Nat.reduceAdd,Nat.reduceMul,Int.reduceLT,Int.reduceLE,Int.reduceToNat,yb,zn,wi,xI,vO]
 refine wy s fun b1 h2 s2 => ?_
 have gm:=(s2.p 1).get
 unfold yY at gm
 simp -implicitDefEqProofs only [EE,MA,Nat.reduceLeDiff,gm,UU,iE]
 refine wy s2 fun b2 h3 s3 => ?_
 simp -implicitDefEqProofs only [EE,Nat.reduceAdd,zF]
 refine xx s3 (by simp) rfl fun h4 s4 => ?_
 have g2:=s4.get
 have g1:=(s4.p 1).get
 by_cases k1:(zv S 0).k=1
 ·by_cases k2:mv.k=1
  ·simp -implicitDefEqProofs only [EE,ze,Nat.reduceAdd,zL,xz,zu,xk,xi,JC,Xo,g1,g2,k1,k2]
   obtain ⟨lo1,l1,s5,fr⟩:=(s4.f [2,3]).call (L2:=[pt b (yY p lv mb wb S ev lk gl cl lim),qy 41 3 lk (S.lk.map vA)])
   refine zW (by kernel_rfl) rfl (iu s5 hL 3 (zv S 0).n mv.n) ?_
   rintro v h5 ⟨lk',s6⟩
   have s7:=fr _ _ s6
   have gm:=s7.get
   unfold yY at gm
   have g2:=(s7.p 2).get
   have g1:=(s7.p 3).get
   have e2:zv (vo S 3 (zv S 0).n mv.n) 2=zv S 2:=rfl
   simp -implicitDefEqProofs only [EE,ze,MA,Nat.reduceAdd,Nat.reduceLeDiff,Nat.reduceMul,Int.reduceLT,Int.reduceLE,Int.reduceToNat,yb,zn,xI,vO,JB,gm,g2,UU,EI,e2,k1]
   have sq:=Dp (zv S 0) h5
   unfold vv at sq
   rw [k1] at sq
   refine vU (by kernel_rfl) rfl sq ?_
   have hv:=Ln (zv S 2) (Y8 (zv S 0))
   by_cases c2:zv S 2=Y8 (zv S 0)
   ·have hv:_=true:=hv.trans (decide_eq_true c2)
    simp -implicitDefEqProofs only [EE,ze,MA,Nat.reduceAdd,yb,zn,C4,JA,Vz,hv,g1,g2,k1,k2]
    have B1:=Ko (to:=0) s7 hl (by decide) (by decide) 14 (zv S 0) mv
    unfold vv at B1
    rw [k1,k2] at B1
    refine zW (by kernel_rfl) rfl B1 ?_
    rintro v h6 ⟨rfl,s8⟩
    have g2:=(s8.p 2).get
    have g1:=(s8.p 3).get
    cases hr:(wh (vo S 3 (zv S 0).n mv.n) 0 (yf 14 (zv S 0) mv)).2 with
    | false=>
      have e:q9 S mv=wh (vo S 3 (zv S 0).n mv.n) 0 (yf 14 (zv S 0) mv):=by unfold q9;rw [MK ⟨k1,k2⟩,MK c2,MJ (by rw [hr];simp)]
      rw [e,hr]
      simp -implicitDefEqProofs only [EE,Vx,Vy]
      exact ⟨lk',s8.k [0,1]⟩
    | true=>
      have e:q9 S mv=wh (wh (vo S 3 (zv S 0).n mv.n) 0 (yf 14 (zv S 0) mv)).1 2 (yf 15 (zv S 0) mv):=by unfold q9;rw [MK ⟨k1,k2⟩,MK c2,MK hr]
      rw [e]
      simp -implicitDefEqProofs only [EE,ze,MA,Nat.reduceAdd,yb,zn,Vx,Vy,g1,g2]
      have B2:=Ko (to:=2) s8 (by show (List.set _ _ _).length=16;rw [NU];exact hl) (by decide) (by decide) 15 (zv S 0) mv
      unfold vv at B2
      rw [k1,k2] at B2
      refine zW (by kernel_rfl) rfl B2 ?_
      rintro v h7 ⟨rfl,s9⟩
      simp -implicitDefEqProofs only [EE]
      exact ⟨lk',s9.k [0,1]⟩
   ·have hv:_=false:=hv.trans (decide_eq_false c2)
    have e:q9 S mv=(vo S 3 (zv S 0).n mv.n,false):=by unfold q9;rw [MK ⟨k1,k2⟩,MJ c2]
    rw [e]
    simp -implicitDefEqProofs only [EE,C4,Vz,hv]
    exact ⟨lk',s7.k [0,1]⟩
  ·have e:q9 S mv=(S,false):=by unfold q9;rw [MJ (fun q=>k2 q.2)]
   rw [e]
   simp -implicitDefEqProofs only [EE,ze,Nat.reduceAdd,zL,zu,xk,Xo,g1,g2,k1,k2]
   exact ⟨lk,s4.k [2,3]⟩
 ·have e:q9 S mv=(S,false):=by unfold q9;rw [MJ (fun q=>k1 q.1)]
  rw [e]
  simp -implicitDefEqProofs only [EE,ze,Nat.reduceAdd,zL,zu,xk,Xo,g2,k1]
  exact ⟨lk,s4.k [2,3]⟩
theorem t7 {b c k:Nat} {h:za} {cs:List Value} (hc:c ≠ 0) (hg:h.get b=some (.cells cs 105)):Cf Tryd.prog 84 (.slice (some ⟨b,0,none⟩) (k + 1) c) none (some (.int .i64 (k:Nat))) h=some (.slice (some ⟨b,0,none⟩) k c):=by
 have h1:(0:Int)<=(k:Int)/\(k:Int)<=((k + 1:Nat):Int):=by omega
 rw [I5,ZO,MK h1,Nd,X8,Nd,E2 hg,Cw,MV,D6 hc]
 simp
theorem EP {ty:TypeId} {n q k c:Nat} {rows:List (List Value)} {row:List Value} (hn:∀ r,r ∈ rows ++ [row]->r.length=n) (hk:k=rows.length) (s:Sat lo h (qy ty n (.slice (some ⟨q,0,none⟩) (k + 1) c) (rows ++ [row]) :: L)):c ≠ 0/\(∃ cs,h.get q=some (.cells cs ty))/\Sat lo h (qy ty n (.slice (some ⟨q,0,none⟩) k c) rows :: L):=by
 rcases jT s with ⟨e,_⟩ | ⟨b',c',cs,e,hc,hl,ht,s⟩
 ·cases e
 ·simp only [Of,My,OC,NB] at e
  obtain ⟨rfl,_,rfl⟩:=e
  have hlen:(rows ++ [row]).length=rows.length + 1:=by simp
  have hr:row.length=n:=hn row (by simp)
  rw [hlen,Nat.succ_mul] at hl ht
  rw [hk]
  refine ⟨hc,⟨cs,s.get⟩,re hc (by omega) ?_ s⟩
  have h2:=congrArg (List.take (rows.length * n)) ht
  rw [List.take_take,Nat.min_eq_left (by omega)] at h2
  rw [h2,List.flatten_append,List.take_append_of_le_length (by rw [xC fun r q=>hn r (by simp [q])];exact MI _),List.take_of_length_le (by rw [xC fun r q=>hn r (by simp [q])];exact MI _)]
theorem Et {q cp:Nat} {c:Fr} {ini:List Fr} (s:Sat lo h (pt b (yY p lv mb wb S ev lk gl cl lim) :: qy 105 7 cl (S.calls.map wQ) :: L)) (hcl:cl = .slice (some ⟨q,0,none⟩) (ini.length + 1) cp) (hc:S.calls=ini ++ [c]) (hn1:ini.length < 4611686018427387900) (hs:Hx lim S) :
  DC Tryd.prog 71 [yZ b,.pointer (some ⟨q,ini.length * 7,none⟩)] h (fun v h'=>v = .bool (kB S c).2 /\ ∃ cl',Sat lo h' (pt b (yY p lv mb wb (kB S c).1 ev lk gl cl' lim) :: qy 105 7 cl' ((kB S c).1.calls.map wQ) :: L)):=by
 apply oz
 unfold gE yZ
 have hrow:(S.calls.map wQ)[ini.length]? = some (wQ c):=by rw [M5,hc];simp
 obtain ⟨q',c',cs',e1,gq,wq,ltq,lq,tq,kq,_⟩:=cC (s.p 1) (aI _) hrow
 rw [hcl] at e1
 simp only [Of,My,OC,NB] at e1
 obtain ⟨rfl,_,rfl⟩:=e1
 have k2:=kq 2 (by decide)
 have k2:cs'[ini.length * 7 + 2]? = some (.int .i64 c.jU):=k2
 have hdl:S.calls.dropLast=ini:=by rw [hc,Og]
 by_cases hb:c.jU=0
 ·have w1:IntKind.wrap .i64 (S.stack - 8)=S.stack - 8:=Go.Mem.kC (by have:=hs.s0;omega) (by have:=hs.s1;omega)
  simp -implicitDefEqProofs only [EE,zL,zu,DY,Z0,Yq,eD,gq,k2,hb]
  refine xx s (by simp [wC]) rfl fun h2 s2 => ?_
  rw [sP] at s2
  have g2:=s2.get
  simp -implicitDefEqProofs only [EE,zL,zu,ZV,Wg,g2,np,w1]
  refine xx s2 (by simp [wC]) rfl fun h3 s3 => ?_
  rw [Dn] at s3
  have g3:=s3.get
  have e3:S.calls.map wQ=ini.map wQ ++ [wQ c]:=by rw [hc];simp
  rw [hcl,e3] at s3
  obtain ⟨hc0,⟨cs,gq3⟩,s4⟩:=EP (by rw [<- e3];exact aI _) (by simp) (s3.p 1)
  have w2:IntKind.wrap .i64 (((ini.length + 1:Nat):Int) - 1)=(ini.length:Nat):=by rw [show (((ini.length + 1:Nat):Int) - 1)=(ini.length:Nat) by omega];exact Go.Mem.kC (by omega) (by omega)
  have sl:=t7 (k:=ini.length) hc0 gq3
  simp -implicitDefEqProofs only [EE,MV,zL,r8,Fi,KY,pL,g3,sK,hcl,w2,sl]
  refine xx (s4.p 1) (by simp [wC]) rfl fun h5 s5 => ?_
  rw [FK] at s5
  have g5:=s5.get
  simp -implicitDefEqProofs only [EE,zL,r8,KY,pL,g5,sK]
  by_cases hi:(ini.length:Int) > 0
  ·have e:kB S c=({ S with flags:=false,stack:=S.stack - 8,calls:=ini },true):=by
    unfold kB
    rw [MJ (fun q=>q hb),hdl,MK (by intro q;rw [q] at hi;simp at hi)]
   simp -implicitDefEqProofs only [EE,hi]
   rw [e]
   exact ⟨rfl,_,s5⟩
  ·have hi0:ini = []:=NQ (by omega)
   simp -implicitDefEqProofs only [EE,Value.cells,MA,Nat.reduceAdd,Nat.reduceMul,Int.reduceLT,Int.reduceLE,Int.reduceToNat,yb,zn,wi,xI,vO,eC,hi]
   simp -implicitDefEqProofs only [EE,MA,Nat.reduceLeDiff,g5,UU,iE]
   refine wy s5 fun b6 h6 s6 => ?_
   simp -implicitDefEqProofs only [EE,Nat.reduceAdd,zF]
   refine xx s6 (by simp) rfl fun h7 s7 => ?_
   have g7:=s7.get
   by_cases hk:(zv S 0).k=1
   ·have e:kB S c=({ S with flags:=false,stack:=S.stack - 8,calls:=[],kind:=1,exit:=(zv S 0).n },true):=by
     unfold kB
     rw [MJ (fun q=>q hb),hdl,MJ (by rw [hi0];simp),MK hk]
    have hne:b6 ≠ b:=s7.ne
    have hne2:b ≠ b6:=fun q=>hne q.symm
    have ek:∀ X,zv ({ S with flags:=false,stack:=S.stack - 8 }:St) X=zv S X:=fun _=>rfl
    simp -implicitDefEqProofs only [EE,ze,Nat.reduceAdd,Nat.reduceLeDiff,ne_eq,zL,xz,zu,ZV,km,xk,xi,ks,eA,g7,ek,hk,mc,hne2,ne_eq,true_or]
    refine xx (s7.p 1) (by simp [wC]) rfl fun h8 s8 => ?_
    rw [G4] at s8
    have g8:=s8.get
    simp -implicitDefEqProofs only [EE,Nat.reduceAdd,Lt,hO,ks]
    refine xx s8 (by simp [wC]) rfl fun h9 s9 => ?_
    rw [L7] at s9
    simp -implicitDefEqProofs only [EE]
    rw [e]
    rw [hi0] at s9
    exact ⟨rfl,_,(s9.p 1).drop⟩
   ·have e:kB S c=({ S with flags:=false,stack:=S.stack - 8,calls:=[] },false):=by
     unfold kB
     rw [MJ (fun q=>q hb),hdl,MJ (by rw [hi0];simp),MJ hk]
    have ek:∀ X,zv ({ S with flags:=false,stack:=S.stack - 8 }:St) X=zv S X:=fun _=>rfl
    simp -implicitDefEqProofs only [EE,ze,Nat.reduceAdd,zL,zu,xk,g7,ek,hk]
    rw [e]
    rw [hi0] at s7
    exact ⟨rfl,_,s7.drop⟩
 ·have e:kB S c=(S,false):=by unfold kB;rw [MK hb]
  rw [e]
  simp -implicitDefEqProofs only [EE,zL,zu,Z0,gq,k2,hb]
  exact ⟨cl,s⟩
end
section
variable {lo:yQ} {h:za} {L:List HP} {b mb wb:Nat} {p:Pg} {S:St} {lv ev lk gl cl:Value} {lim:Int} {i:qt}
theorem ZJ {q cp:Nat} {c:Fr} {ini:List Fr} (s:Sat lo h (qy 105 7 cl ((ini ++ [c]).map wQ) :: L)) (hcl:cl = .slice (some ⟨q,0,none⟩) (ini.length + 1) cp):∃ cs,h.get q=some (.cells cs 105)/\h.ro<=q/\q < h.next/\ini.length * 7 + 7<=cs.length/\cs[ini.length * 7]? = some (.int .i64 (c.f:Nat))/\cs[ini.length * 7 + 1]? = some (.int .i64 c.pt)/\cs[ini.length * 7 + 2]? = some (.int .i64 c.jU)/\cs[ini.length * 7 + 3]? = some (.int .i64 c.size)/\(cs.drop (ini.length * 7 + 4)).take 3 = [.int .i64 c.bV.k,.int .i64 c.bV.n,.int .i64 c.bV.b]:=by
 have hrow:((ini ++ [c]).map wQ)[ini.length]? = some (wQ c):=by rw [M5];simp
 obtain ⟨q',c',cs,e1,gq,wq,ltq,lq,tq,kq,_⟩:=cC s (aI _) hrow
 rw [hcl] at e1
 simp only [Of,My,OC,NB] at e1
 obtain ⟨rfl,_,rfl⟩:=e1
 have k0:=kq 0 (by decide)
 rw [Ox] at k0
 refine ⟨cs,gq,wq,ltq,lq,k0,kq 1 (by decide),kq 2 (by decide),kq 3 (by decide),?_⟩
 have:(cs.drop (ini.length * 7 + 4)).take 3=((cs.drop (ini.length * 7)).take 7).drop 4:=by
  rw [List.drop_take,List.drop_drop]
 rw [this,tq];rfl
theorem U0 {q cp:Nat} {c c':Fr} {ini:List Fr} {K:za->Prop} (s:Sat lo h (qy 105 7 cl ((ini ++ [c]).map wQ) :: L)) (hcl:cl = .slice (some ⟨q,0,none⟩) (ini.length + 1) cp) {j:Nat} {vs:List Value} (hj:j + vs.length<=7) (hc:vs.all xE=true) (e:ze (wQ c) j vs=wQ c') (k:∀ h',Sat lo h' (qy 105 7 cl ((ini ++ [c']).map wQ) :: L)->K h'):opt (xU h q (ini.length * 7 + j) vs) K:=by
 have hrow:((ini ++ [c]).map wQ)[ini.length]? = some (wQ c):=by rw [M5];simp
 obtain ⟨q',c1,cs,e1,gq,wq,ltq,lq,tq,kq,s2⟩:=cC s (aI _) hrow
 rw [hcl] at e1
 simp only [Of,My,OC,NB] at e1
 obtain ⟨rfl,_,rfl⟩:=e1
 refine Df gq wq lq s2 hj hc fun h' s'=>k h' ?_
 rw [e] at s'
 have:((ini ++ [c]).map wQ).set ini.length (wQ c')=(ini ++ [c']).map wQ:=by
  rw [<- List.map_set,List.set_append_right _ _ (MI _)];simp
 rw [this] at s'
 exact s'
theorem sQ (hl:S.jx.length=16) (v:V):ze (xY p lv mb wb S ev lk gl cl lim) 26 [.int .i64 v.k,.int .i64 v.n,.int .i64 v.b]=xY p lv mb wb (wF S 4 v) ev lk gl cl lim:=cA (r:=4) (by decide) (by decide) hl v
theorem sy {q cp:Nat} {c:Fr} {ini:List Fr} (s:Sat lo h [pt b (yY p lv mb wb S ev lk gl cl lim),qy 105 7 cl (S.calls.map wQ),jq mb S.mem]) (hcl:cl = .slice (some ⟨q,0,none⟩) (ini.length + 1) cp) (hc:S.calls=ini ++ [c]) (hs:Hx lim S) (hl:S.jx.length=16) (hL:S.mem.length<=100000) (hb:c.jU < 9223372036854775808) (hz:0<=c.size/\c.size<=65536) (k0:0<=i.k) (k1:i.k<=65536) (ho:i.op=23\/i.op=24) :
  DC Tryd.prog 72 [yZ b,.pointer (some ⟨q,ini.length * 7,none⟩),i.val] h (fun v h'=>v = .bool (xK lim S c i).2/\Sat lo h' [pt b (yY p lv mb wb (xK lim S c i).1 ev lk gl cl lim),qy 105 7 cl ((xK lim S c i).1.calls.map wQ),jq mb (xK lim S c i).1.mem]):=by
 apply om
 unfold gD yZ
 rw [hc] at s
 simp -implicitDefEqProofs only [EE,Value.cells]
 refine wy s fun b5 h2 s2 => ?_
 have g5:=s2.get
 obtain ⟨cs,gq,wq,ltq,lq,kf,kp,kb,kz,kr⟩:=ZJ (s2.p 2) hcl
 by_cases h24:i.op=24
 ·simp -implicitDefEqProofs only [EE,zL,zu,Z0,zh,dN,g5,h24]
  by_cases hb0:c.jU=0
  ·have e:xK lim S c i=(S,false):=by unfold xK;rw [MK h24,MK (.inl hb0)]
   rw [e]
   simp -implicitDefEqProofs only [EE,WH,WI,WJ,gq,kb,hb0]
   rw [hc]
   exact s2.k [1,2,3]
  ·by_cases hz0:c.size=i.k
   ·simp -implicitDefEqProofs only [EE,zL,xz,zu,fk,Z0,UA,y7,WW,dM,WH,WI,WJ,gq,kb,kz,g5,hb0,hz0]
    have gm:=(s2.p 1).get
    unfold yY at gm
    simp -implicitDefEqProofs only [EE,gm,AV]
    obtain ⟨lo1,l1,s3,fr⟩:=(s2.f [3]).call (L2:=[jq mb S.mem])
    refine vF (by kernel_rfl) rfl (Gx s3 hL hb) ?_
    rintro v h3 ⟨rfl,s4⟩
    have s5:=fr _ _ s4
    clear gq kf kp kb kz kr gm
    obtain ⟨cs,gq,wq,ltq,lq,kf,kp,kb,kz,kr⟩:=ZJ (s5.p 3) hcl
    have gm:=(s5.p 2).get
    unfold yY at gm
    have w1:IntKind.wrap .i64 (S.stack - c.size)=S.stack - c.size:=Go.Mem.kC (by have:=hs.s0;omega) (by have:=hs.s1;omega)
    simp -implicitDefEqProofs only [EE,zL,zu,ZV,UA,Wg,dL,gm,gq,kz,np,w1]
    refine xx (s5.p 2) (by simp [wC]) rfl fun h6 s6 => ?_
    rw [Dn] at s6
    obtain ⟨cs2,gq2,_,_,lq2,_,_,_,_,kr2⟩:=ZJ (s6.p 3) hcl
    have lr:ini.length * 7 + 4 + 3<=cs2.length:=by omega
    have lr2:ini.length * 7 + 7<=cs2.length:=lq2
    simp -implicitDefEqProofs only [EE,MA,Nat.reduceAdd,Nat.reduceMul,Int.reduceLT,Int.reduceLE,Int.reduceToNat,yb,zn,zF,mJ,xI,vO,gq2,kr2,lr]
    refine xx s6 (by simp [wC]) rfl fun h7 s7 => ?_
    rw [sQ (S:={ S with stack:=S.stack - c.size }) hl] at s7
    simp -implicitDefEqProofs only [EE,ZV,Z0]
    refine U0 (c':={ c with jU:=0 }) (s7.p 3) hcl (j:=2) (by simp) rfl rfl fun h8 s8 => ?_
    simp -implicitDefEqProofs only [EE]
    have e:xK lim S c i=(qg (wF { S with mem:=(Y4 S.mem c.jU).getD S.mem,stack:=S.stack - c.size } 4 c.bV) { c with jU:=0 },true):=by
     unfold xK;rw [MK h24,MJ (by rintro (q | q);exact hb0 q;exact q hz0)]
    have ec:(qg (wF { S with mem:=(Y4 S.mem c.jU).getD S.mem,stack:=S.stack - c.size } 4 c.bV) { c with jU:=0 }).calls=ini ++ [{ c with jU:=0 }]:=by
     show S.calls.dropLast ++ [_]=_
     rw [hc,Og]
    rw [e]
    refine ⟨rfl,?_⟩
    rw [ec]
    exact s8.k [1,0,2]
   ·have e:xK lim S c i=(S,false):=by unfold xK;rw [MK h24,MK (.inr hz0)]
    rw [e]
    simp -implicitDefEqProofs only [EE,zL,xz,zu,UA,y7,WH,WI,WJ,gq,kb,kz,g5,hb0,hz0]
    rw [hc]
    exact s2.k [1,2,3]
 ·simp -implicitDefEqProofs only [EE,zL,zu,Z0,zh,JG,g5,h24,gq,kb]
  by_cases hb0:c.jU=0
  ·simp -implicitDefEqProofs only [EE,zL,xz,y7,JF,g5,hb0]
   have e0:xK lim S c i=if (xD lim S i.k).2=true then
     (qg (wF { (xD lim S i.k).1 with mem:=(xJ S.mem i.k).1 } 4 (fw (xJ S.mem i.k).2.1 0)) { c with jU:=(xJ S.mem i.k).2.1,size:=i.k,bV:=zv S 4 },decide ((xJ S.mem i.k).2.2=0))
    else ((xD lim S i.k).1,true):=by unfold xK;rw [MJ h24,MJ (fun q=>q hb0)]
   have ec:(xD lim S i.k).1.calls=S.calls:=by unfold xD;split <;> rfl
   have em:(xD lim S i.k).1.mem=S.mem:=by unfold xD;split <;> rfl
   have er:(xD lim S i.k).1.jx=S.jx:=by unfold xD;split <;> rfl
   refine zW (by kernel_rfl) rfl (CR (s2.f [1]) hs k0 (by omega)) ?_
   rintro v h3 ⟨rfl,s3⟩
   cases hg:(xD lim S i.k).2 with
   | false=>
     rw [MJ (by rw [hg];simp)] at e0
     rw [e0]
     simp -implicitDefEqProofs only [EE]
     rw [ec,em,hc]
     exact s3.k [0,2,3]
   | true=>
     rw [MK hg] at e0
     have g5:=(s3.p 1).get
     have gm:=s3.get
     unfold yY at gm
     simp -implicitDefEqProofs only [EE,zL,xz,fk,y7,WW,dQ,gm,g5,AV]
     obtain ⟨lo1,l1,s4,fr⟩:=(s3.f [3]).call (L2:=[jq mb S.mem])
     refine vF (by kernel_rfl) rfl (r9 s4 i.k) ?_
     rintro v h4 ⟨rfl,s5⟩
     have s6:=fr _ _ s5
     obtain ⟨M',rB,rE,hA⟩:∃ M' rB rE,xJ S.mem i.k=(M',rB,rE):=⟨_,_,_,rfl⟩
     rw [hA] at s6 e0 ⊢
     have g5:=(s6.p 2).get
     have gm:=(s6.p 1).get
     unfold yY at gm
     have hne:b5 ≠ q:=by
      intro e
      obtain ⟨cs,gq,_⟩:=ZJ (s6.p 3) hcl
      rw [<- e,g5] at gq
      cases gq
     have hne2:q ≠ b5:=fun q=>hne q.symm
     have eg:zv (xD lim S i.k).1 4=zv S 4:=by unfold zv;rw [er]
     simp -implicitDefEqProofs only [EE,MA,Nat.reduceAdd,Nat.reduceLeDiff,Nat.reduceMul,Int.reduceLT,Int.reduceLE,Int.reduceToNat,ne_eq,yb,zL,xz,zn,ZV,Z0,y7,xI,vO,dP,gm,g5,UU,EJ,eg,mc,hne2,ne_eq,true_or]
     refine U0 (c':={ c with jU:=rB }) (s6.p 3) hcl (j:=2) (by simp) rfl rfl fun h7 s7 => ?_
     simp -implicitDefEqProofs only [EE,ZV,UA]
     refine U0 (c':={ c with jU:=rB,size:=i.k }) s7 hcl (j:=3) (by simp) rfl rfl fun h8 s8 => ?_
     simp -implicitDefEqProofs only [EE,Nat.reduceAdd,zF,mJ]
     refine U0 (c':={ c with jU:=rB,size:=i.k,bV:=zv S 4 }) s8 hcl (j:=4) (by simp) rfl rfl fun h9 s9 => ?_
     simp -implicitDefEqProofs only []
     refine vU (by kernel_rfl) rfl (Ch rB 0 _) ?_
     simp -implicitDefEqProofs only [EE,MA,Nat.reduceAdd,Nat.reduceMul,Int.reduceLT,Int.reduceLE,Int.reduceToNat,zF,xI,vO,dO]
     refine xx (s9.p 2) (by simp [wC]) rfl fun h10 s10 => ?_
     rw [sQ (by rw [er];exact hl)] at s10
     simp -implicitDefEqProofs only [EE]
     have ec2:(qg (wF { (xD lim S i.k).1 with mem:=M' } 4 (fw rB 0)) { c with jU:=rB,size:=i.k,bV:=zv S 4 }).calls=ini ++ [{ c with jU:=rB,size:=i.k,bV:=zv S 4 }]:=by
      show (xD lim S i.k).1.calls.dropLast ++ [_]=_
      rw [ec,hc,Og]
     rw [e0]
     refine ⟨rfl,?_⟩
     show Sat lo h10 [pt b (yY p lv mb wb (qg (wF { (xD lim S i.k).1 with mem:=M' } 4 (fw rB 0)) { c with jU:=rB,size:=i.k,bV:=zv S 4 }) ev lk gl cl lim),qy 105 7 cl ((qg (wF { (xD lim S i.k).1 with mem:=M' } 4 (fw rB 0)) { c with jU:=rB,size:=i.k,bV:=zv S 4 }).calls.map wQ),jq mb M']
     rw [ec2]
     exact s10.k [0,1,2]
  ·have e:xK lim S c i=(S,false):=by unfold xK;rw [MJ h24,MK hb0]
   rw [e]
   simp -implicitDefEqProofs only [EE,hb0]
   rw [hc]
   exact s2.k [1,2,3]
end
def YD (p:Pg) (b mb wb:Nat) (wn:Value) (world:List Int) (lim:Int) (lv gl:Value) (S:St) (ev lk cl:Value):List HP :=
 [pt b (yY p lv mb wb S ev lk gl cl lim),qy 41 3 lk (S.lk.map vA),qy 69 2 ev (S.ev.map qu),qy 105 7 cl (S.calls.map wQ),jq mb S.mem,pt wb (.cells [wn,.int .i64 S.used] 122),qy 2 1 wn (world.map vZ)]
def qH (lo:yQ) (p:Pg) (b mb wb:Nat) (wn:Value) (world:List Int) (lim:Int) (lv gl:Value) (S:St) (h:za):Prop := ∃ ev lk cl,Sat lo h (YD p b mb wb wn world lim lv gl S ev lk cl)
structure V0 (lim:Int) (S:St):Prop where
 hl:S.jx.length=16
 hv:∀ r,vb (zv S r)
 FM:Hx lim S
 lk:(S.lk.length + 1) * 24<=2 ^ 47
 ev:(S.ev.length + 1) * 16<=2 ^ 47
 cs:(S.calls.length + 1) * 56<=2 ^ 47
 mem:small S.mem/\S.mem.length<=100000
 used:0<=S.used/\S.used < 4611686018427387904
structure Ld (c:Fr):Prop where
 jU:c.jU < 9223372036854775808
 size:0<=c.size/\c.size<=65536
section
variable {lo:yQ} {h:za} {L:List HP} {b mb wb:Nat} {p:Pg} {S:St} {wn lv gl ev lk cl:Value} {world:List Int} {lim:Int} {i:qt} {c:Fr} {q j:Nat}
theorem iI {X:List HP} {r:Int} {K:za->Prop} (s:Sat lo h (pt b (yY p lv mb wb S ev lk gl cl lim) :: X)) (hl:S.jx.length=16) (h0:0<=r) (h1:r < 16) (v:V) (k:∀ h',Sat lo h' (pt b (yY p lv mb wb (wF S r v) ev lk gl cl lim) :: X)->K h'):opt (xU h b (14 + r.toNat * 3) [.int .i64 v.k,.int .i64 v.n,.int .i64 v.b]) K:=by
 refine xx s (by rw [wC];simp;omega) rfl fun h' s' => ?_
 have e:ze (xY p lv mb wb S ev lk gl cl lim) (14 + r.toNat * 3) [.int .i64 v.k,.int .i64 v.n,.int .i64 v.b]=xY p lv mb wb (wF S r v) ev lk gl cl lim:=cA h0 h1 hl v
 rw [e] at s'
 exact k h' s'
theorem Yj (S:St) (i:qt):(yC S i).1.ev=S.ev/\(yC S i).1.calls=S.calls/\(yC S i).1.used=S.used:=by
 unfold yC
 split
 ·exact ⟨rfl,rfl,rfl⟩
 ·split
  ·split
   ·split <;> exact ⟨rfl,rfl,rfl⟩
   ·exact ⟨rfl,rfl,rfl⟩
  ·exact ⟨rfl,rfl,rfl⟩
theorem LL (s:Sat lo h (YD p b mb wb wn world lim lv gl S ev lk cl)) (B:V0 lim S) (hk:i.op=1) (r0:0<=i.r) (r1:i.r < 16) (m0:0<=i.m) (m1:i.m < 16) :
  DC Tryd.prog 48 [yZ b,.pointer (some ⟨q,j,none⟩),i.val] h (fun v h'=>v = .bool true/\qH lo p b mb wb wn world lim lv gl (wF S i.r (zv S i.m)) h'):=by
 apply xn
 unfold w8 yZ
 simp -implicitDefEqProofs only [EE,Value.cells]
 refine wy s fun b5 h2 s2 => ?_
 have g5:=s2.get
 have gm:=(s2.p 1).get
 unfold yY at gm
 simp -implicitDefEqProofs only [EE,↓yW,MA,Nat.reduceAdd,yb,zL,zu,zn,zF,zh,vz,wt,xI,vO,e8,yU,g5,gm,hk,m0,m1,qf m1,qe m0 m1,r0,r1]
 refine iI (s2.p 1) B.hl r0 r1 _ fun h3 s3 => ?_
 simp -implicitDefEqProofs only [EE]
 exact ⟨ev,lk,cl,(s3.p 1).drop⟩
theorem LM (s:Sat lo h (YD p b mb wb wn world lim lv gl S ev lk cl)) (B:V0 lim S) (hk:i.op=2) (r0:0<=i.r) (r1:i.r < 16) :
  DC Tryd.prog 48 [yZ b,.pointer (some ⟨q,j,none⟩),i.val] h (fun v h'=>v = .bool true/\qH lo p b mb wb wn world lim lv gl (wF S i.r (vJ i.k)) h'):=by
 apply xn
 unfold w8 yZ
 simp -implicitDefEqProofs only [EE,Value.cells]
 refine wy s fun b5 h2 s2 => ?_
 have g5:=s2.get
 have gm:=(s2.p 1).get
 unfold yY at gm
 simp -implicitDefEqProofs only [EE,↓yW,Int.reduceEq,zL,xz,zu,zh,vz,y7,e7,y4,yU,g5,hk]
 refine vU (by kernel_rfl) rfl (qS i.k _) ?_
 simp -implicitDefEqProofs only [EE,MA,Nat.reduceAdd,zF,xI,vO,lQ,r0,r1]
 refine iI (s2.p 1) B.hl r0 r1 _ fun h3 s3 => ?_
 simp -implicitDefEqProofs only [EE]
 exact ⟨ev,lk,cl,(s3.p 1).drop⟩
theorem LN (s:Sat lo h (YD p b mb wb wn world lim lv gl S ev lk cl)) (B:V0 lim S) (hk:i.op=3) (r0:0<=i.r) (r1:i.r < 16) (m0:0<=i.m) (m1:i.m < 16) (hsub:jw i.sub) :
  DC Tryd.prog 48 [yZ b,.pointer (some ⟨q,j,none⟩),i.val] h (fun v h'=>v = .bool (yC S i).2/\qH lo p b mb wb wn world lim lv gl (yC S i).1 h'):=by
 apply xn
 unfold w8 yZ
 simp -implicitDefEqProofs only [EE,Value.cells]
 refine wy s fun b5 h2 s2 => ?_
 have g5:=s2.get
 have gm:=(s2.p 1).get
 unfold yY at gm
 simp -implicitDefEqProofs only [EE,nth,↓yW,MA,Nat.reduceAdd,Int.reduceEq,yb,zL,zu,vx,zh,xc,xe,y4,yU,g5,hk]
 have ei:i.val = .agg #[.int .i64 3,.int .i64 i.r,.int .i64 i.m,.int .i64 i.sub,.int .i64 i.cc,.int .i64 i.l,.int .i64 i.k]:=by rw [<- hk]
 rw [<- ei]
 obtain ⟨lo1,l1,s3,fr⟩:=(s2.f [1,2,5]).call (L2:=[pt b (yY p lv mb wb S ev lk gl cl lim),qy 41 3 lk (S.lk.map vA),jq mb S.mem])
 refine zW (by kernel_rfl) rfl (lW (i:=i) s3 B.lk B.hl B.hv B.mem.1 hsub m0 m1 r0 r1) ?_
 rintro v h4 ⟨rfl,lk',s4⟩
 have s5:=fr _ _ s4
 simp -implicitDefEqProofs only [EE]
 have ee:(yC S i).1.ev=S.ev/\(yC S i).1.calls=S.calls/\(yC S i).1.used=S.used:=Yj S i
 refine ⟨ev,lk',cl,?_⟩
 unfold YD
 rw [ee.1,ee.2.1,ee.2.2]
 exact s5.k [0,1,4,5,2,6,7]
theorem LO (s:Sat lo h (YD p b mb wb wn world lim lv gl S ev lk cl)) (B:V0 lim S) (hk:i.op=4) (r0:0<=i.r) (r1:i.r < 16) (m0:0<=i.m) (m1:i.m < 16) (hsub:jw i.sub) :
  DC Tryd.prog 48 [yZ b,.pointer (some ⟨q,j,none⟩),i.val] h (fun v h'=>v = .bool (yC S i).2/\qH lo p b mb wb wn world lim lv gl (yC S i).1 h'):=by
 apply xn
 unfold w8 yZ
 simp -implicitDefEqProofs only [EE,Value.cells]
 refine wy s fun b5 h2 s2 => ?_
 have g5:=s2.get
 have gm:=(s2.p 1).get
 unfold yY at gm
 simp -implicitDefEqProofs only [EE,nth,↓yW,MA,Nat.reduceAdd,Int.reduceEq,yb,zL,zu,vx,zh,xc,xe,y4,yU,g5,hk]
 have ei:i.val = .agg #[.int .i64 4,.int .i64 i.r,.int .i64 i.m,.int .i64 i.sub,.int .i64 i.cc,.int .i64 i.l,.int .i64 i.k]:=by rw [<- hk]
 rw [<- ei]
 obtain ⟨lo1,l1,s3,fr⟩:=(s2.f [1,2,5]).call (L2:=[pt b (yY p lv mb wb S ev lk gl cl lim),qy 41 3 lk (S.lk.map vA),jq mb S.mem])
 refine zW (by kernel_rfl) rfl (lW (i:=i) s3 B.lk B.hl B.hv B.mem.1 hsub m0 m1 r0 r1) ?_
 rintro v h4 ⟨rfl,lk',s4⟩
 have s5:=fr _ _ s4
 simp -implicitDefEqProofs only [EE]
 have ee:(yC S i).1.ev=S.ev/\(yC S i).1.calls=S.calls/\(yC S i).1.used=S.used:=Yj S i
 refine ⟨ev,lk',cl,?_⟩
 unfold YD
 rw [ee.1,ee.2.1,ee.2.2]
 exact s5.k [0,1,4,5,2,6,7]
theorem LQ (s:Sat lo h (YD p b mb wb wn world lim lv gl S ev lk cl)) (B:V0 lim S) (hk:i.op=5) (r0:0<=i.r) (r1:i.r < 16) (m0:0<=i.m) (m1:i.m < 16) :
  DC Tryd.prog 48 [yZ b,.pointer (some ⟨q,j,none⟩),i.val] h (fun v h'=>v = .bool (wh S i.r (yf 11 (zv S i.m) (vJ i.k))).2/\qH lo p b mb wb wn world lim lv gl (wh S i.r (yf 11 (zv S i.m) (vJ i.k))).1 h'):=by
 apply xn
 unfold w8 yZ
 simp -implicitDefEqProofs only [EE,Value.cells]
 refine wy s fun b5 h2 s2 => ?_
 have g5:=s2.get
 have gm:=(s2.p 1).get
 unfold yY at gm
 simp -implicitDefEqProofs only [EE,nth,↓yW,MA,Nat.reduceAdd,Int.reduceEq,yb,zL,xz,zu,vx,zn,zh,vz,wt,y7,xI,vO,eZ,xt,xc,xe,y4,yU,g5,gm,hk,m0,m1,qf m1,qe m0 m1]
 refine vU (by kernel_rfl) rfl (qS i.k _) ?_
 refine vF (by kernel_rfl) rfl (Ko (s2.p 1) B.hl r0 r1 11 (zv S i.m) (vJ i.k)) ?_
 rintro v h3 ⟨rfl,s3⟩
 simp -implicitDefEqProofs only [EE]
 exact ⟨ev,lk,cl,(s3.p 1).drop⟩
theorem LR (s:Sat lo h (YD p b mb wb wn world lim lv gl S ev lk cl)) (B:V0 lim S) (hk:i.op=6) (r0:0<=i.r) (r1:i.r < 16) (s0:0<=i.sub) (s1:i.sub < S.gl.length) (hg:Rd lo (zG · gl S.gl)) :
  DC Tryd.prog 48 [yZ b,.pointer (some ⟨q,j,none⟩),i.val] h (fun v h'=>v = .bool true/\qH lo p b mb wb wn world lim lv gl (wF S i.r (fw (S.gl.getD i.sub.toNat 0) i.k)) h'):=by
 apply xn
 unfold w8 yZ
 simp -implicitDefEqProofs only [EE,Value.cells]
 refine wy s fun b5 h2 s2 => ?_
 have g5:=s2.get
 have gm:=(s2.p 1).get
 unfold yY at gm
 obtain ⟨z,hz⟩:∃ z,S.gl[i.sub.toNat]? = some z:=⟨_,MF (by omega)⟩
 obtain ⟨bb,o,cs,t,hix,hb,hgt,hat0⟩:=t9 (hg.at s2) hz
 rw [show ((i.sub.toNat:Nat):Int)=i.sub from Int.toNat_of_nonneg s0] at hix
 have gn:=(hg.at s2).Ye
 rw [show S.gl.getD i.sub.toNat 0=z by rw [Nk,hz];rfl]
 simp -implicitDefEqProofs only [EE,nth,↓yW,MA,Nat.reduceAdd,Int.reduceEq,yb,zL,xz,ZP,zu,vx,zh,vz,yz,y7,sw,eY,xB,xt,xc,xe,y4,yU,g5,gm,hk,FD,hix,hgt,hat0]
 refine vU (by kernel_rfl) rfl (Ch z i.k _) ?_
 simp -implicitDefEqProofs only [EE,MA,Nat.reduceAdd,zF,xI,vO,lR,r0,r1]
 refine iI (s2.p 1) B.hl r0 r1 _ fun h3 s3 => ?_
 simp -implicitDefEqProofs only []
 exact ⟨ev,lk,cl,(s3.p 1).drop⟩
theorem LS (s:Sat lo h (YD p b mb wb wn world lim lv gl S ev lk cl)) (B:V0 lim S) (hk:i.op=7) (r0:0<=i.r) (r1:i.r < 16) (m0:0<=i.m) (m1:i.m < 16) :
  DC Tryd.prog 48 [yZ b,.pointer (some ⟨q,j,none⟩),i.val] h (fun v h'=>v = .bool (wh S i.r (yf i.sub (zv S i.r) (zv S i.m))).2/\qH lo p b mb wb wn world lim lv gl (wh S i.r (yf i.sub (zv S i.r) (zv S i.m))).1 h'):=by
 apply xn
 unfold w8 yZ
 simp -implicitDefEqProofs only [EE,Value.cells]
 refine wy s fun b5 h2 s2 => ?_
 have g5:=s2.get
 have gm:=(s2.p 1).get
 unfold yY at gm
 simp -implicitDefEqProofs only [EE,nth,↓yW,MA,Nat.reduceAdd,Int.reduceEq,yb,zL,zu,vx,zn,zh,vz,wt,yz,xI,vO,eX,xH,xB,xt,xc,xe,y4,yU,g5,gm,hk,m0,m1,qf m1,qe m0 m1,r0,r1,qf r1,qe r0 r1]
 refine vF (by kernel_rfl) rfl (Ko (s2.p 1) B.hl r0 r1 i.sub (zv S i.r) (zv S i.m)) ?_
 rintro v h3 ⟨rfl,s3⟩
 simp -implicitDefEqProofs only [EE]
 exact ⟨ev,lk,cl,(s3.p 1).drop⟩
theorem LU (s:Sat lo h (YD p b mb wb wn world lim lv gl S ev lk cl)) (B:V0 lim S) (hk:i.op=8) (r0:0<=i.r) (r1:i.r < 16) :
  DC Tryd.prog 48 [yZ b,.pointer (some ⟨q,j,none⟩),i.val] h (fun v h'=>v = .bool (wh S i.r (yf i.sub (zv S i.r) (vJ i.k))).2/\qH lo p b mb wb wn world lim lv gl (wh S i.r (yf i.sub (zv S i.r) (vJ i.k))).1 h'):=by
 apply xn
 unfold w8 yZ
 simp -implicitDefEqProofs only [EE,Value.cells]
 refine wy s fun b5 h2 s2 => ?_
 have g5:=s2.get
 have gm:=(s2.p 1).get
 unfold yY at gm
 simp -implicitDefEqProofs only [EE,nth,↓yW,MA,Nat.reduceAdd,Int.reduceEq,yb,zL,xz,zu,vx,zn,zh,vz,yz,y7,xI,vO,QB,xM,xH,xB,xt,xc,xe,y4,yU,g5,gm,hk,r0,r1,qf r1,qe r0 r1]
 refine vU (by kernel_rfl) rfl (qS i.k _) ?_
 refine vF (by kernel_rfl) rfl (Ko (s2.p 1) B.hl r0 r1 i.sub (zv S i.r) (vJ i.k)) ?_
 rintro v h3 ⟨rfl,s3⟩
 simp -implicitDefEqProofs only [EE]
 exact ⟨ev,lk,cl,(s3.p 1).drop⟩
theorem Is (s:Sat lo h (YD p b mb wb wn world lim lv gl S ev lk cl)) (B:V0 lim S) (hk:i.op=11) (r0:0<=i.r) (r1:i.r < 16) :
  DC Tryd.prog 48 [yZ b,.pointer (some ⟨q,j,none⟩),i.val] h (fun v h'=>v = .bool (wh S i.r (yf i.sub (zv S i.r) (vJ i.k))).2/\qH lo p b mb wb wn world lim lv gl (wh S i.r (yf i.sub (zv S i.r) (vJ i.k))).1 h'):=by
 apply xn
 unfold w8 yZ
 simp -implicitDefEqProofs only [EE,Value.cells]
 refine wy s fun b5 h2 s2 => ?_
 have g5:=s2.get
 have gm:=(s2.p 1).get
 unfold yY at gm
 simp -implicitDefEqProofs only [EE,nth,↓yW,MA,Nat.reduceAdd,Int.reduceEq,yb,zL,xz,zu,vx,zn,zh,vz,yz,y7,xI,vO,QB,xM,xH,xB,xt,xc,xe,y4,yU,g5,gm,hk,r0,r1,qf r1,qe r0 r1]
 refine vU (by kernel_rfl) rfl (qS i.k _) ?_
 refine vF (by kernel_rfl) rfl (Ko (s2.p 1) B.hl r0 r1 i.sub (zv S i.r) (vJ i.k)) ?_
 rintro v h3 ⟨rfl,s3⟩
 simp -implicitDefEqProofs only [EE]
 exact ⟨ev,lk,cl,(s3.p 1).drop⟩
theorem LV (s:Sat lo h (YD p b mb wb wn world lim lv gl S ev lk cl)) (B:V0 lim S) (hk:i.op=9) (r0:0<=i.r) (r1:i.r < 16) :
  DC Tryd.prog 48 [yZ b,.pointer (some ⟨q,j,none⟩),i.val] h (fun v h'=>v = .bool (wh S i.r (KJ i.sub (zv S i.r))).2/\qH lo p b mb wb wn world lim lv gl (wh S i.r (KJ i.sub (zv S i.r))).1 h'):=by
 apply xn
 unfold w8 yZ
 simp -implicitDefEqProofs only [EE,Value.cells]
 refine wy s fun b5 h2 s2 => ?_
 have g5:=s2.get
 have gm:=(s2.p 1).get
 unfold yY at gm
 simp -implicitDefEqProofs only [EE,nth,↓yW,MA,Nat.reduceAdd,Int.reduceEq,yb,zL,zu,vx,zn,zh,vz,yz,xI,vO,eW,xZ,xM,xH,xB,xt,xc,xe,y4,yU,g5,gm,hk,r0,r1,qf r1,qe r0 r1]
 refine vF (by kernel_rfl) rfl (I8 (s2.p 1) B.hl r0 r1 i.sub (zv S i.r)) ?_
 rintro v h3 ⟨rfl,s3⟩
 simp -implicitDefEqProofs only [EE]
 exact ⟨ev,lk,cl,(s3.p 1).drop⟩
theorem Ir (s:Sat lo h (YD p b mb wb wn world lim lv gl S ev lk cl)) (B:V0 lim S) (hk:i.op=10) (r0:0<=i.r) (r1:i.r < 16) (m0:0<=i.m) (m1:i.m < 16) :
  DC Tryd.prog 48 [yZ b,.pointer (some ⟨q,j,none⟩),i.val] h (fun v h'=>v = .bool (wh S i.r (KJ i.sub (zv S i.m))).2/\qH lo p b mb wb wn world lim lv gl (wh S i.r (KJ i.sub (zv S i.m))).1 h'):=by
 apply xn
 unfold w8 yZ
 simp -implicitDefEqProofs only [EE,Value.cells]
 refine wy s fun b5 h2 s2 => ?_
 have g5:=s2.get
 have gm:=(s2.p 1).get
 unfold yY at gm
 simp -implicitDefEqProofs only [EE,nth,↓yW,MA,Nat.reduceAdd,Int.reduceEq,yb,zL,zu,vx,zn,zh,vz,wt,yz,xI,vO,eV,wm,xZ,xM,xH,xB,xt,xc,xe,y4,yU,g5,gm,hk,m0,m1,qf m1,qe m0 m1]
 refine vF (by kernel_rfl) rfl (I8 (s2.p 1) B.hl r0 r1 i.sub (zv S i.m)) ?_
 rintro v h3 ⟨rfl,s3⟩
 simp -implicitDefEqProofs only [EE]
 exact ⟨ev,lk,cl,(s3.p 1).drop⟩
end
def Xd (p:Pg) (lv:Value) (h:za):Prop := ∃ ls:List Nat,zX h lv 1 (ls.map fun q=>[.map (some q)])/\ls.length=p.funcs.length /\ ∀ (k q:Nat) (f:Fn),ls[k]? = some q->p.funcs[k]? = some f->h.get q=some (Wq (Yw f.code 0 []))
section
variable {lo:yQ} {h:za} {L:List HP} {b mb wb:Nat} {p:Pg} {S:St} {wn lv gl ev lk cl:Value} {world:List Int} {lim:Int} {i:qt} {c:Fr} {ini:List Fr} {q j cp:Nat}
theorem HF (n:Int):IntKind.wrap .i64 (BitVec.ofInt IntKind.i64.bits n &&& BitVec.ofInt IntKind.i64.bits 63).toNat=Zs (· &&& ·) n 63:=rfl
theorem EO (hl:S.jx.length=16) (v:V):ze (xY p lv mb wb S ev lk gl cl lim) 20 [.int .i64 v.k,.int .i64 v.n,.int .i64 v.b]=xY p lv mb wb (wF S 2 v) ev lk gl cl lim:=cA (r:=2) (by decide) (by decide) hl v
theorem EN (hl:S.jx.length=16) (v:V):ze (xY p lv mb wb S ev lk gl cl lim) 14 [.int .i64 v.k,.int .i64 v.n,.int .i64 v.b]=xY p lv mb wb (wF S 0 v) ev lk gl cl lim:=cA (r:=0) (by decide) (by decide) hl v
theorem IX (v:V):ze (xY p lv mb wb S ev lk gl cl lim) 63 [.int .i64 v.k,.int .i64 v.n,.int .i64 v.b]=xY p lv mb wb { S with a:=v } ev lk gl cl lim:=IU v
theorem IY (v:V):ze (xY p lv mb wb S ev lk gl cl lim) 66 [.int .i64 v.k,.int .i64 v.n,.int .i64 v.b]=xY p lv mb wb { S with b:=v } ev lk gl cl lim:=IV v
theorem Ib {r r':Int} {v:V} (h0:0<=r) (h1:0<=r') (hn:r ≠ r'):zv (wF S r v) r'=zv S r':=by
 unfold zv wF
 rw [aM h1,aM h1]
 show (S.jx.set r.toNat v).getD r'.toNat v0=_
 rw [Nk,Nk,NS (by omega)]
theorem mC (S:St) (m:V):(q9 S m).1.ev=S.ev/\(q9 S m).1.calls=S.calls/\(q9 S m).1.used=S.used/\(q9 S m).1.mem=S.mem:=by
 unfold q9
 split
 ·split
  ·split <;> exact ⟨rfl,rfl,rfl,rfl⟩
  ·exact ⟨rfl,rfl,rfl,rfl⟩
 ·exact ⟨rfl,rfl,rfl,rfl⟩
theorem It (s:Sat lo h (YD p b mb wb wn world lim lv gl S ev lk cl)) (B:V0 lim S) (hk:i.op=12) (r0:0<=i.r) (r1:i.r < 16) :
  DC Tryd.prog 48 [yZ b,.pointer (some ⟨q,j,none⟩),i.val] h (fun v h'=>v = .bool (if (zv S 1).k=1 then (wh S i.r (yf i.sub (zv S i.r) (vJ (Zs (· &&& ·) (zv S 1).n 63)))) else (S,false)).2/\qH lo p b mb wb wn world lim lv gl (if (zv S 1).k=1 then (wh S i.r (yf i.sub (zv S i.r) (vJ (Zs (· &&& ·) (zv S 1).n 63)))) else (S,false)).1 h'):=by
 apply xn
 unfold w8 yZ
 simp -implicitDefEqProofs only [EE,Value.cells]
 refine wy s fun b5 h2 s2 => ?_
 have g5:=s2.get
 have gm:=(s2.p 1).get
 unfold yY at gm
 simp -implicitDefEqProofs only [EE,nth,Value.cells,↓yW,MA,Nat.reduceAdd,Nat.reduceLeDiff,Nat.reduceMul,Int.reduceEq,Int.reduceLT,Int.reduceLE,Int.reduceToNat,yb,zL,zu,vx,zn,wi,zh,xI,vO,eU,wD,wm,xZ,xM,xH,xB,xt,xc,xe,y4,yU,g5,gm,hk,UU,EH]
 refine wy s2 fun b6 h3 s3 => ?_
 simp -implicitDefEqProofs only [EE,Nat.reduceAdd,zF]
 refine xx s3 (by simp) rfl fun h4 s4 => ?_
 have g6:=s4.get
 have g5:=(s4.p 1).get
 have gm:=(s4.p 2).get
 unfold yY at gm
 by_cases k1:(zv S 1).k=1
 ·rw [MK k1]
  simp -implicitDefEqProofs only [EE,ze,MA,Nat.reduceAdd,yb,zL,xz,zu,zn,vz,yz,xk,xi,xI,vO,JL,JM,JN,JO,JP,JQ,Qq,g5,g6,gm,k1,r0,r1,qf r1,qe r0 r1]
  rw [HF]
  refine vU (by kernel_rfl) rfl (qS (Zs (· &&& ·) (zv S 1).n 63) _) ?_
  simp -implicitDefEqProofs only [EE,JK]
  refine vF (by kernel_rfl) rfl (Ko (s4.p 2) B.hl r0 r1 i.sub (zv S i.r) (vJ (Zs (· &&& ·) (zv S 1).n 63))) ?_
  rintro v h3 ⟨rfl,s3⟩
  simp -implicitDefEqProofs only [EE]
  exact ⟨ev,lk,cl,s3.k [0,3,4,5,6,7,8]⟩
 ·rw [MJ k1]
  simp -implicitDefEqProofs only [EE,ze,Nat.reduceAdd,zL,zu,xk,JK,JL,JM,JN,JO,JP,JQ,Qq,g6,k1]
  exact ⟨ev,lk,cl,s4.drop.drop⟩
theorem Iu (s:Sat lo h (YD p b mb wb wn world lim lv gl S ev lk cl)) (B:V0 lim S) (hk:i.op=13)  :
  DC Tryd.prog 48 [yZ b,.pointer (some ⟨q,j,none⟩),i.val] h (fun v h'=>v = .bool (decide ((zv S 0).k=1))/\qH lo p b mb wb wn world lim lv gl (wF S 2 (Y8 (zv S 0))) h'):=by
 apply xn
 unfold w8 yZ
 simp -implicitDefEqProofs only [EE,Value.cells]
 refine wy s fun b5 h2 s2 => ?_
 have g5:=s2.get
 have gm:=(s2.p 1).get
 unfold yY at gm
 simp -implicitDefEqProofs only [EE,nth,↓yW,MA,Nat.reduceAdd,Nat.reduceLeDiff,Nat.reduceMul,Int.reduceEq,Int.reduceLT,Int.reduceLE,Int.reduceToNat,yb,zL,zu,vx,zn,zh,xI,vO,eT,wJ,wD,wm,xZ,xM,xH,xB,xt,xc,xe,y4,yU,g5,gm,hk,UU,iE]
 refine vU (by kernel_rfl) rfl (Dp (zv S 0) _) ?_
 simp -implicitDefEqProofs only [EE,MA,Nat.reduceAdd,Nat.reduceMul,Int.reduceLT,Int.reduceLE,Int.reduceToNat,zF,xI,vO,eE]
 refine xx (s2.p 1) (by simp [wC]) rfl fun h3 s3 => ?_
 rw [EO B.hl (Y8 (zv S 0))] at s3
 have gm:=s3.get
 unfold yY at gm
 have e0:zv (wF S 2 (Y8 (zv S 0))) 0=zv S 0:=Ib (by decide) (by decide) (by decide)
 simp -implicitDefEqProofs only [EE,MA,Nat.reduceMul,Int.reduceLT,Int.reduceLE,Int.reduceToNat,zL,zu,xk,xI,vO,gm]
 refine ⟨rfl,?_,ev,lk,cl,(s3.p 1).drop⟩
 show Value.bool ((zv (wF S 2 (Y8 (zv S 0))) 0).k == 1)=_
 rw [e0]
 rfl
theorem Iv (s:Sat lo h (YD p b mb wb wn world lim lv gl S ev lk cl)) (B:V0 lim S) (hk:i.op=14) (m0:0<=i.m) (m1:i.m < 16) :
  DC Tryd.prog 48 [yZ b,.pointer (some ⟨q,j,none⟩),i.val] h (fun v h'=>v = .bool (q9 S (zv S i.m)).2/\qH lo p b mb wb wn world lim lv gl (q9 S (zv S i.m)).1 h'):=by
 apply xn
 unfold w8 yZ
 simp -implicitDefEqProofs only [EE,Value.cells]
 refine wy s fun b5 h2 s2 => ?_
 have g5:=s2.get
 have gm:=(s2.p 1).get
 unfold yY at gm
 simp -implicitDefEqProofs only [EE,nth,↓yW,MA,Nat.reduceAdd,Int.reduceEq,yb,zL,zu,vx,zn,zh,wt,xI,vO,eS,w5,wJ,wD,wm,xZ,xM,xH,xB,xt,xc,xe,y4,yU,g5,gm,hk,m0,m1,qf m1,qe m0 m1]
 obtain ⟨lo1,l1,s3,fr⟩:=(s2.f [1,2]).call (L2:=[pt b (yY p lv mb wb S ev lk gl cl lim),qy 41 3 lk (S.lk.map vA)])
 refine vF (by kernel_rfl) rfl (Cz (mv:=zv S i.m) s3 B.lk B.hl) ?_
 rintro v h4 ⟨rfl,lk',s4⟩
 have s5:=fr _ _ s4
 simp -implicitDefEqProofs only [EE]
 obtain ⟨e1,e2,e3,e4⟩:=mC S (zv S i.m)
 refine ⟨ev,lk',cl,?_⟩
 unfold YD
 rw [e1,e2,e3,e4]
 exact s5.k [0,1,3,4,5,6,7]
theorem Iw (s:Sat lo h (YD p b mb wb wn world lim lv gl S ev lk cl)) (B:V0 lim S) (hk:i.op=15) (r0:0<=i.r) (r1:i.r < 16) (m0:0<=i.m) (m1:i.m < 16) :
  DC Tryd.prog 48 [yZ b,.pointer (some ⟨q,j,none⟩),i.val] h (fun v h'=>v = .bool true/\qH lo p b mb wb wn world lim lv gl { S with flags:=true,a:=zv S i.r,b:=zv S i.m } h'):=by
 apply xn
 unfold w8 yZ
 simp -implicitDefEqProofs only [EE,Value.cells]
 refine wy s fun b5 h2 s2 => ?_
 have g5:=s2.get
 have gm:=(s2.p 1).get
 unfold yY at gm
 simp -implicitDefEqProofs only [EE,nth,↓yW,MA,Nat.reduceAdd,Int.reduceEq,yb,zL,zu,vx,zn,DY,zh,vz,wt,xI,Yq,vO,eR,vi,w5,wJ,wD,wm,xZ,xM,xH,xB,xt,xc,xe,y4,yU,g5,gm,hk,m0,m1,qf m1,qe m0 m1,r0,r1,qf r1,qe r0 r1]
 refine xx (s2.p 1) (by simp [wC]) rfl fun h3 s3 => ?_
 rw [sP] at s3
 simp -implicitDefEqProofs only [EE,Nat.reduceAdd,zF,KZ]
 refine xx s3 (by simp [wC]) rfl fun h4 s4 => ?_
 rw [IX] at s4
 simp -implicitDefEqProofs only [EE,Nat.reduceAdd,zF,UC]
 refine xx s4 (by simp [wC]) rfl fun h5 s5 => ?_
 rw [IY (zv S i.m)] at s5
 simp -implicitDefEqProofs only []
 exact ⟨ev,lk,cl,(s5.p 1).drop⟩
theorem Ix (s:Sat lo h (YD p b mb wb wn world lim lv gl S ev lk cl)) (B:V0 lim S) (hk:i.op=16) (r0:0<=i.r) (r1:i.r < 16) :
  DC Tryd.prog 48 [yZ b,.pointer (some ⟨q,j,none⟩),i.val] h (fun v h'=>v = .bool true/\qH lo p b mb wb wn world lim lv gl { S with flags:=true,a:=zv S i.r,b:=vJ i.k } h'):=by
 apply xn
 unfold w8 yZ
 simp -implicitDefEqProofs only [EE,Value.cells]
 refine wy s fun b5 h2 s2 => ?_
 have g5:=s2.get
 have gm:=(s2.p 1).get
 unfold yY at gm
 simp -implicitDefEqProofs only [EE,nth,↓yW,MA,Nat.reduceAdd,Int.reduceEq,yb,zL,xz,zu,vx,zn,zh,vz,y7,xI,vO,eQ,vw,vi,w5,wJ,wD,wm,xZ,xM,xH,xB,xt,xc,xe,y4,yU,g5,gm,hk,r0,r1,qf r1,qe r0 r1]
 refine vU (by kernel_rfl) rfl (qS i.k _) ?_
 simp -implicitDefEqProofs only [EE,DY,Yq,eF]
 refine xx (s2.p 1) (by simp [wC]) rfl fun h3 s3 => ?_
 rw [sP] at s3
 simp -implicitDefEqProofs only [EE,Nat.reduceAdd,zF,KZ]
 refine xx s3 (by simp [wC]) rfl fun h4 s4 => ?_
 rw [IX] at s4
 simp -implicitDefEqProofs only [EE,Nat.reduceAdd,zF,UC]
 refine xx s4 (by simp [wC]) rfl fun h5 s5 => ?_
 rw [IY (vJ i.k)] at s5
 simp -implicitDefEqProofs only []
 exact ⟨ev,lk,cl,(s5.p 1).drop⟩
theorem Iy (s:Sat lo h (YD p b mb wb wn world lim lv gl S ev lk cl)) (B:V0 lim S) (hk:i.op=17) (r0:0<=i.r) (r1:i.r < 16) :
  DC Tryd.prog 48 [yZ b,.pointer (some ⟨q,j,none⟩),i.val] h (fun v h'=>v = .bool (if S.flags=true then (wh S i.r (yf i.cc S.a S.b)) else (S,false)).2/\qH lo p b mb wb wn world lim lv gl (if S.flags=true then (wh S i.r (yf i.cc S.a S.b)) else (S,false)).1 h'):=by
 apply xn
 unfold w8 yZ
 simp -implicitDefEqProofs only [EE,Value.cells]
 refine wy s fun b5 h2 s2 => ?_
 have g5:=s2.get
 have gm:=(s2.p 1).get
 unfold yY at gm
 cases hf:S.flags with
 | false=>
   rw [MJ (by decide)]
   simp -implicitDefEqProofs only [EE,nth,↓yW,MA,Nat.reduceAdd,Int.reduceEq,yb,zL,zu,oM,vx,zh,Yq,Qr,Qs,Qt,Qu,Qv,Qw,Qx,QA,vQ,vw,vi,w5,wJ,wD,wm,xZ,xM,xH,xB,xt,xc,xe,y4,yU,g5,gm,hk,sL,hf]
   exact ⟨ev,lk,cl,s2.drop⟩
 | true=>
   rw [MK rfl]
   simp -implicitDefEqProofs only [EE,nth,↓yW,MA,Nat.reduceAdd,Nat.reduceLeDiff,Int.reduceEq,yb,zL,zu,oM,vx,zn,zh,vz,KX,UC,Yq,KZ,Qr,Qs,Qt,Qu,Qv,Qw,Qx,QA,vQ,vw,vi,w5,wJ,wD,wm,xZ,xM,xH,xB,xt,xc,xe,y4,yU,g5,gm,hk,sL,hf,UU,FE,FF]
   refine vF (by kernel_rfl) rfl (Ko (s2.p 1) B.hl r0 r1 i.cc S.a S.b) ?_
   rintro v h3 ⟨rfl,s3⟩
   simp -implicitDefEqProofs only [EE]
   exact ⟨ev,lk,cl,(s3.p 1).drop⟩
theorem IB (s:Sat lo h (YD p b mb wb wn world lim lv gl S ev lk cl)) (B:V0 lim S) (hk:i.op=20)  :
  DC Tryd.prog 48 [yZ b,.pointer (some ⟨q,j,none⟩),i.val] h (fun v h'=>v = .bool true/\qH lo p b mb wb wn world lim lv gl S h'):=by
 apply xn
 unfold w8 yZ
 simp -implicitDefEqProofs only [EE,Value.cells]
 refine wy s fun b5 h2 s2 => ?_
 have g5:=s2.get
 have gm:=(s2.p 1).get
 unfold yY at gm
 simp -implicitDefEqProofs only [EE,nth,↓yW,MA,Nat.reduceAdd,Int.reduceEq,yb,zL,zu,vx,zh,WO,YR,jF,jG,kX,qP,qk,uR,vQ,vw,vi,w5,wJ,wD,wm,xZ,xM,xH,xB,xt,xc,xe,y4,yU,g5,hk]
 exact ⟨ev,lk,cl,s2.drop⟩
end
section
variable {lo:yQ} {h:za} {L:List HP} {b mb wb:Nat} {p:Pg} {S:St} {wn lv gl ev lk cl:Value} {world:List Int} {lim:Int} {i:qt} {c:Fr} {ini:List Fr} {q j cp:Nat}
theorem ir {f:Fn} {n:Nat} (hL:Xd p lv h) (hf:p.funcs[n]? = some f) (l:Int):yc lv=false /\ ∃ bb o cs t qm,zA Tryd.prog 81 lv (.int .i64 (n:Nat))=some (.pointer (some ⟨bb,o,none⟩))/\h.get bb=some (.cells cs t)/\cs[o]? = some (.map (some qm))/\kg Tryd.prog 99 (.map (some qm)) (.int .i64 l) false h=some (.int .i64 (q5 p n l)):=by
 obtain ⟨ls,S,hlen,hm⟩:=hL
 have hn:n < ls.length:=by
  rw [hlen]
  rcases MX n p.funcs.length with a | a
  ·exact a
  ·rw [MO a] at hf;cases hf
 have hq:ls[n]? = some ls[n]:=MF hn
 have hr:(ls.map fun q=>[Value.map (some q)])[n]? = some [.map (some ls[n])]:=by rw [M5,hq];rfl
 refine ⟨S.Ye,?_⟩
 obtain ⟨bb,o,cs,t,⟨off,cp,rfl,rfl⟩,hi,hb,hg,hl,ht,hk⟩:=S.spot hr rfl
 have h1:0<=(n:Int)/\(n:Int) < ((ls.map fun q=>[Value.map (some q)]).length:Int):=by omega
 refine ⟨bb,off + n * 1,cs,t,ls[n],by simp only [Ie,h1,M4,and_self,MA],hg,hk 0 (by decide),?_⟩
 rw [m5 (kt:=3) (et:=3) (kind := .i64) (z := .int .i64 0) (by kernel_rfl) (by kernel_rfl) (by kernel_rfl) (hm n _ f hq hf) l false]
 have hp:=aY f.code l 0 0 [] (.inr ⟨rfl,rfl⟩)
 have e:q5 p n l=VR f.code l 0 0:=by unfold q5;rw [hf]
 rw [e]
 rcases hp with hp | ⟨hp,hz⟩
 ·rw [hp];rfl
 ·rw [hp,hz];rfl
theorem sB {X:List HP} (hcl:cl = .slice (some ⟨q,0,none⟩) (ini.length + 1) cp) (hc:S.calls=ini ++ [c]) (s:Sat lo h (qy 105 7 cl (S.calls.map wQ) :: X)) (z:Int) {K:za->Prop} (k:∀ h',Sat lo h' (qy 105 7 cl ((qg S { c with pt:=z }).calls.map wQ) :: X)->K h'):opt (xU h q (ini.length * 7 + 1) [.int .i64 z]) K:=by
 rw [hc] at s
 refine U0 (c':={ c with pt:=z }) s hcl (j:=1) (by simp) rfl rfl fun h' s'=>k h' ?_
 have e:(qg S { c with pt:=z }).calls=ini ++ [{ c with pt:=z }]:=by
  show S.calls.dropLast ++ [_]=_
  rw [hc,Og]
 rw [e]
 exact s'
theorem Iz (s:Sat lo h (YD p b mb wb wn world lim lv gl S ev lk cl)) (B:V0 lim S) (hk:i.op=18) (hcl:cl = .slice (some ⟨q,0,none⟩) (ini.length + 1) cp) (hc:S.calls=ini ++ [c]) {f:Fn} (hL:Rd lo (Xd p lv)) (hf:p.funcs[c.f]? = some f) :
  DC Tryd.prog 48 [yZ b,.pointer (some ⟨q,ini.length * 7,none⟩),i.val] h (fun v h'=>v = .bool true/\qH lo p b mb wb wn world lim lv gl (qg S { c with pt:=q5 p c.f i.l }) h'):=by
 apply xn
 unfold w8 yZ
 simp -implicitDefEqProofs only [EE,Value.cells]
 refine wy s fun b5 h2 s2 => ?_
 have g5:=s2.get
 have gm:=(s2.p 1).get
 unfold yY at gm
 obtain ⟨ln,bb,o,cs,t,qm,hix,hgt,hat0,hlk⟩:=ir (hL.at s2) hf i.l
 have s2':=s2
 unfold YD at s2'
 rw [hc] at s2'
 obtain ⟨cs2,gq,wq,ltq,lq,kf,kp,kb,kz,kr⟩:=ZJ (s2'.p 4) hcl
 simp -implicitDefEqProofs only [EE,nth,↓yW,MA,Nat.reduceAdd,Int.reduceEq,yb,zL,zu,vx,B5,Ff,ZV,aC,YZ,zh,jW,hQ,eP,uR,vQ,vw,vi,w5,wJ,wD,wm,xZ,xM,xH,xB,xt,xc,xe,y4,yU,g5,gm,gq,kf,hk,GX,hix,hgt,hat0,hlk]
 refine sB hcl hc (s2.p 4) _ fun h3 s3 => ?_
 simp -implicitDefEqProofs only []
 exact ⟨ev,lk,cl,s3.k [2,3,4,0,5,6,7]⟩
theorem IA (s:Sat lo h (YD p b mb wb wn world lim lv gl S ev lk cl)) (B:V0 lim S) (hk:i.op=19) (hcl:cl = .slice (some ⟨q,0,none⟩) (ini.length + 1) cp) (hc:S.calls=ini ++ [c]) {f:Fn} (hL:Rd lo (Xd p lv)) (hff:p.funcs[c.f]? = some f) :
  DC Tryd.prog 48 [yZ b,.pointer (some ⟨q,ini.length * 7,none⟩),i.val] h (fun v h'=>v = .bool (YJ p S c i).2/\qH lo p b mb wb wn world lim lv gl (YJ p S c i).1 h'):=by
 apply xn
 unfold w8 yZ
 simp -implicitDefEqProofs only [EE,Value.cells]
 refine wy s fun b5 h2 s2 => ?_
 have g5:=s2.get
 have gm:=(s2.p 1).get
 unfold yY at gm
 obtain ⟨ln,bb,o,cs,t,qm,hix,hgt,hat0,hlk⟩:=ir (hL.at s2) hff i.l
 simp -implicitDefEqProofs only [EE,nth,↓yW,MA,Nat.reduceAdd,Nat.reduceLeDiff,Int.reduceEq,yb,zL,zu,vx,zn,zh,KX,UC,KZ,eO,qk,uR,vQ,vw,vi,w5,wJ,wD,wm,xZ,xM,xH,xB,xt,xc,xe,y4,yU,g5,gm,hk,UU,FE,FF]
 refine vU (by kernel_rfl) rfl (Cr i.cc S.a S.b _) ?_
 rw [yS]
 simp -implicitDefEqProofs only [EE,Value.cells,wi,eI]
 cases hb:yf i.cc S.a S.b with
 | none=>
   have e:YJ p S c i=(S,false):=by unfold YJ;rw [hb]
   rw [e]
   simp -implicitDefEqProofs only [Option.getD_none,v0]
   refine wy s2 fun b6 h3 s3 => ?_
   simp -implicitDefEqProofs only [EE,Nat.reduceAdd,zF]
   refine xx s3 (by simp) rfl fun h4 s4 => ?_
   simp -implicitDefEqProofs only [EE,WL,WM,WN,Option.isSome_none]
   exact ⟨ev,lk,cl,s4.drop.drop⟩
 | some v=>
   simp -implicitDefEqProofs only [Ol]
   refine wy s2 fun b6 h3 s3 => ?_
   simp -implicitDefEqProofs only [EE,Nat.reduceAdd,zF]
   refine xx s3 (by simp) rfl fun h4 s4 => ?_
   have g6:=s4.get
   have g5:=(s4.p 1).get
   have gm:=(s4.p 2).get
   unfold yY at gm
   cases hf:S.flags with
   | false=>
     have e:YJ p S c i=(S,false):=by unfold YJ;rw [hb];simp only [hf,Nz,MS]
     rw [e]
     simp -implicitDefEqProofs only [EE,zL,oM,Yq,WL,WM,WN,gm,sL,hf,Option.isSome_some]
     exact ⟨ev,lk,cl,s4.drop.drop⟩
   | true=>
     have e:YJ p S c i=((if v.n=0 then vo S 1 v.n 0 else qg (vo S 1 v.n 0) { c with pt:=q5 p c.f i.l }),true):=by unfold YJ;rw [hb];simp only [hf,MA]
     rw [e]
     simp -implicitDefEqProofs only [EE,ze,Nat.reduceAdd,zL,xz,oM,xi,Yq,eH,WL,WM,WN,g6,gm,sL,hf,Option.isSome_some]
     obtain ⟨lo1,l1,s5,fr⟩:=(s4.f [2,3]).call (L2:=[pt b (yY p lv mb wb S ev lk gl cl lim),qy 41 3 lk (S.lk.map vA)])
     refine zW (by kernel_rfl) rfl (iu s5 B.lk 1 v.n 0) ?_
     rintro r h5 ⟨lk',s6⟩
     have s7:=fr _ _ s6
     have g6:=(s7.p 2).get
     have g5:=(s7.p 3).get
     have gm:=s7.get
     unfold yY at gm
     by_cases hv:v.n=0
     ·rw [MK hv]
      simp -implicitDefEqProofs only [EE,ze,Nat.reduceAdd,zL,xz,xi,Qy,g6,hv]
      rw [hv] at s7
      exact ⟨ev,lk',cl,s7.k [0,1,4,5,6,7,8]⟩
     ·rw [MJ hv]
      obtain ⟨ln,bb,o,cs,t,qm,hix,hgt,hat0,hlk⟩:=ir (hL.at s7) hff i.l
      have s7':=s7
      rw [hc] at s7'
      obtain ⟨cs2,gq,wq,ltq,lq,kf,kp,kb,kz,kr⟩:=ZJ (s7'.p 5) hcl
      simp -implicitDefEqProofs only [EE,ze,Nat.reduceAdd,zL,xz,zu,B5,Ff,ZV,aC,YZ,jW,xi,hQ,eG,Qy,g5,g6,gm,gq,kf,hv,GX,hix,hgt,hat0,hlk]
      refine sB (S:=vo S 1 v.n 0) hcl hc (s7.p 5) _ fun h3 s3 => ?_
      simp -implicitDefEqProofs only [EE]
      exact ⟨ev,lk',cl,s3.k [1,2,5,0,6,7,8]⟩
theorem J9 (lim:Int) (S:St) (f:Nat):(xX lim S f).ev=S.ev/\(xX lim S f).lk=S.lk/\(xX lim S f).used=S.used/\(xX lim S f).mem=S.mem:=by
 unfold xX xD
 by_cases hc:lim - S.stack < 8
 ·rw [MK hc];exact ⟨rfl,rfl,rfl,rfl⟩
 ·rw [MJ hc];exact ⟨rfl,rfl,rfl,rfl⟩
theorem Dl (S:St) (c:Fr):(kB S c).1.ev=S.ev/\(kB S c).1.lk=S.lk/\(kB S c).1.used=S.used/\(kB S c).1.mem=S.mem:=by
 unfold kB
 split
 ·exact ⟨rfl,rfl,rfl,rfl⟩
 ·split
  ·exact ⟨rfl,rfl,rfl,rfl⟩
  ·split <;> exact ⟨rfl,rfl,rfl,rfl⟩
theorem aJ (lim:Int) (S:St) (c:Fr) (i:qt):(xK lim S c i).1.ev=S.ev/\(xK lim S c i).1.lk=S.lk/\(xK lim S c i).1.used=S.used:=by
 unfold xK xD
 split
 ·split <;> exact ⟨rfl,rfl,rfl⟩
 ·split
  ·exact ⟨rfl,rfl,rfl⟩
  ·by_cases hc:lim - S.stack < i.k
   ·rw [MK hc];exact ⟨rfl,rfl,rfl⟩
   ·rw [MJ hc];exact ⟨rfl,rfl,rfl⟩
theorem IC (s:Sat lo h (YD p b mb wb wn world lim lv gl S ev lk cl)) (B:V0 lim S) (hk:i.op=21) (hs0:0<=i.sub) :
  DC Tryd.prog 48 [yZ b,.pointer (some ⟨q,j,none⟩),i.val] h (fun v h'=>v = .bool true/\qH lo p b mb wb wn world lim lv gl (xX lim (vo { S with flags:=false } 4 i.sub 0) i.sub.toNat) h'):=by
 apply xn
 unfold w8 yZ
 simp -implicitDefEqProofs only [EE,Value.cells]
 refine wy s fun b5 h2 s2 => ?_
 have g5:=s2.get
 have gm:=(s2.p 1).get
 unfold yY at gm
 obtain ⟨fn,hfn⟩:∃ fn:Nat,i.sub=fn:=⟨i.sub.toNat,by omega⟩
 rw [hfn,M4]
 simp -implicitDefEqProofs only [EE,nth,↓yW,MA,Nat.reduceAdd,Int.reduceEq,yb,zL,zu,vx,DY,zh,Yq,eN,qP,qk,uR,vQ,vw,vi,w5,wJ,wD,wm,xZ,xM,xH,xB,xt,xc,xe,y4,yU,g5,hk]
 refine xx (s2.p 1) (by simp [wC]) rfl fun h3 s3 => ?_
 rw [sP] at s3
 simp -implicitDefEqProofs only [EE,zL,zu,yz]
 have g5:=(s3.p 1).get
 simp -implicitDefEqProofs only [EE,g5,hfn]
 obtain ⟨lo1,l1,s4,fr⟩:=(s3.f [0,2]).call (L2:=[pt b (yY p lv mb wb { S with flags:=false } ev lk gl cl lim),qy 41 3 lk (S.lk.map vA)])
 refine zW (by kernel_rfl) rfl (iu (S:={ S with flags:=false }) s4 B.lk 4 fn 0) ?_
 rintro r h5 ⟨lk',s6⟩
 have s7:=fr _ _ s6
 have g5:=(s7.p 2).get
 simp -implicitDefEqProofs only [EE,zL,zu,yz,eJ,g5,hfn]
 obtain ⟨lo2,l2,s8,fr2⟩:=(s7.f [0,4]).call (L2:=[pt b (yY p lv mb wb (vo { S with flags:=false } 4 fn 0) ev lk' gl cl lim),qy 105 7 cl (S.calls.map wQ)])
 refine zW (by kernel_rfl) rfl (so (S:=vo { S with flags:=false } 4 fn 0) s8 ⟨B.FM.l0,B.FM.l1,B.FM.s0,B.FM.s1⟩ B.cs fn) ?_
 rintro r h9 ⟨cl',s10⟩
 have s11:=fr2 _ _ s10
 simp -implicitDefEqProofs only []
 obtain ⟨e1,e2,e3,e4⟩:=J9 lim (vo { S with flags:=false } 4 fn 0) fn
 refine ⟨ev,lk',cl',?_⟩
 unfold YD
 rw [e1,e2,e3,e4]
 exact s11.k [0,2,4,1,5,6,7]
theorem ID (s:Sat lo h (YD p b mb wb wn world lim lv gl S ev lk cl)) (B:V0 lim S) (hk:i.op=22) (hcl:cl = .slice (some ⟨q,0,none⟩) (ini.length + 1) cp) (hc:S.calls=ini ++ [c]) (hn1:ini.length < 4611686018427387900) :
  DC Tryd.prog 48 [yZ b,.pointer (some ⟨q,ini.length * 7,none⟩),i.val] h (fun v h'=>v = .bool (kB S c).2/\qH lo p b mb wb wn world lim lv gl (kB S c).1 h'):=by
 apply xn
 unfold w8 yZ
 simp -implicitDefEqProofs only [EE,Value.cells]
 refine wy s fun b5 h2 s2 => ?_
 have g5:=s2.get
 have gm:=(s2.p 1).get
 unfold yY at gm
 simp -implicitDefEqProofs only [EE,nth,↓yW,MA,Nat.reduceAdd,Int.reduceEq,yb,zL,zu,vx,zh,kX,qP,qk,uR,vQ,vw,vi,w5,wJ,wD,wm,xZ,xM,xH,xB,xt,xc,xe,y4,yU,g5,hk]
 refine zW (by kernel_rfl) rfl (Et (s2.f [1,4]) hcl hc hn1 B.FM) ?_
 rintro v h4 ⟨rfl,cl',s4⟩
 simp -implicitDefEqProofs only [EE]
 obtain ⟨e1,e2,e3,e4⟩:=Dl S c
 refine ⟨ev,lk,cl',?_⟩
 unfold YD
 rw [e1,e2,e3,e4]
 exact s4.k [0,3,4,1,5,6,7]
theorem IE (s:Sat lo h (YD p b mb wb wn world lim lv gl S ev lk cl)) (B:V0 lim S) (hk:i.op=23) (hcl:cl = .slice (some ⟨q,0,none⟩) (ini.length + 1) cp) (hc:S.calls=ini ++ [c]) (hF:Ld c) (k0:0<=i.k) (k1:i.k<=65536) :
  DC Tryd.prog 48 [yZ b,.pointer (some ⟨q,ini.length * 7,none⟩),i.val] h (fun v h'=>v = .bool (xK lim S c i).2/\qH lo p b mb wb wn world lim lv gl (xK lim S c i).1 h'):=by
 apply xn
 unfold w8 yZ
 simp -implicitDefEqProofs only [EE,Value.cells]
 refine wy s fun b5 h2 s2 => ?_
 have g5:=s2.get
 have gm:=(s2.p 1).get
 unfold yY at gm
 simp -implicitDefEqProofs only [EE,nth,↓yW,MA,Nat.reduceAdd,Int.reduceEq,yb,zL,zu,vx,zh,jF,jG,kX,qP,qk,uR,vQ,vw,vi,w5,wJ,wD,wm,xZ,xM,xH,xB,xt,xc,xe,y4,yU,g5,hk]
 have ei:i.val = .agg #[.int .i64 23,.int .i64 i.r,.int .i64 i.m,.int .i64 i.sub,.int .i64 i.cc,.int .i64 i.l,.int .i64 i.k]:=by rw [<- hk]
 rw [<- ei]
 obtain ⟨lo1,l1,s3,fr⟩:=(s2.f [1,4,5]).call (L2:=[pt b (yY p lv mb wb S ev lk gl cl lim),qy 105 7 cl (S.calls.map wQ),jq mb S.mem])
 refine zW (by kernel_rfl) rfl (sy (i:=i) s3 hcl hc B.FM B.hl B.mem.2 hF.jU hF.size k0 k1 (by omega)) ?_
 rintro v h4 ⟨rfl,s4⟩
 have s5:=fr _ _ s4
 simp -implicitDefEqProofs only [EE]
 obtain ⟨e1,e2,e3⟩:=aJ lim S c i
 refine ⟨ev,lk,cl,?_⟩
 unfold YD
 rw [e1,e2,e3]
 exact s5.k [0,4,5,1,2,6,7]
theorem IF (s:Sat lo h (YD p b mb wb wn world lim lv gl S ev lk cl)) (B:V0 lim S) (hk:i.op=24) (hcl:cl = .slice (some ⟨q,0,none⟩) (ini.length + 1) cp) (hc:S.calls=ini ++ [c]) (hF:Ld c) (k0:0<=i.k) (k1:i.k<=65536) :
  DC Tryd.prog 48 [yZ b,.pointer (some ⟨q,ini.length * 7,none⟩),i.val] h (fun v h'=>v = .bool (xK lim S c i).2/\qH lo p b mb wb wn world lim lv gl (xK lim S c i).1 h'):=by
 apply xn
 unfold w8 yZ
 simp -implicitDefEqProofs only [EE,Value.cells]
 refine wy s fun b5 h2 s2 => ?_
 have g5:=s2.get
 have gm:=(s2.p 1).get
 unfold yY at gm
 simp -implicitDefEqProofs only [EE,nth,↓yW,MA,Nat.reduceAdd,Int.reduceEq,yb,zL,zu,vx,zh,jF,jG,kX,qP,qk,uR,vQ,vw,vi,w5,wJ,wD,wm,xZ,xM,xH,xB,xt,xc,xe,y4,yU,g5,hk]
 have ei:i.val = .agg #[.int .i64 24,.int .i64 i.r,.int .i64 i.m,.int .i64 i.sub,.int .i64 i.cc,.int .i64 i.l,.int .i64 i.k]:=by rw [<- hk]
 rw [<- ei]
 obtain ⟨lo1,l1,s3,fr⟩:=(s2.f [1,4,5]).call (L2:=[pt b (yY p lv mb wb S ev lk gl cl lim),qy 105 7 cl (S.calls.map wQ),jq mb S.mem])
 refine zW (by kernel_rfl) rfl (sy (i:=i) s3 hcl hc B.FM B.hl B.mem.2 hF.jU hF.size k0 k1 (by omega)) ?_
 rintro v h4 ⟨rfl,s4⟩
 have s5:=fr _ _ s4
 simp -implicitDefEqProofs only [EE]
 obtain ⟨e1,e2,e3⟩:=aJ lim S c i
 refine ⟨ev,lk,cl,?_⟩
 unfold YD
 rw [e1,e2,e3]
 exact s5.k [0,4,5,1,2,6,7]
theorem IG (s:Sat lo h (YD p b mb wb wn world lim lv gl S ev lk cl)) (B:V0 lim S) (hk:i.op=25) (hwl:world.length < 4611686018427387904) :
  DC Tryd.prog 48 [yZ b,.pointer (some ⟨q,j,none⟩),i.val] h (fun v h'=>v = .bool true/\qH lo p b mb wb wn world lim lv gl (wF { uT S 1 (kd world S.used) with used:=S.used + 1 } 0 (vJ (kd world S.used))) h'):=by
 apply xn
 unfold w8 yZ
 simp -implicitDefEqProofs only [EE,Value.cells]
 refine wy s fun b5 h2 s2 => ?_
 have g5:=s2.get
 have gm:=(s2.p 1).get
 unfold yY at gm
 simp -implicitDefEqProofs only [EE,nth,↓yW,MA,Nat.reduceAdd,Int.reduceEq,yb,zL,zu,vx,HD,zh,Ee,eM,YR,jF,jG,kX,qP,qk,uR,vQ,vw,vi,w5,wJ,wD,wm,xZ,xM,xH,xB,xt,xc,xe,y4,yU,g5,gm,hk,LY]
 obtain ⟨lo1,l1,s3,fr⟩:=(s2.f [6,7]).call (L2:=[pt wb (.cells [wn,.int .i64 S.used] 122),qy 2 1 wn (world.map vZ)])
 refine zW (by kernel_rfl) rfl (GR s3 B.used.1 B.used.2 hwl) ?_
 rintro r h2 ⟨rfl,s4⟩
 have s5:=fr _ _ s4
 simp -implicitDefEqProofs only []
 obtain ⟨lo2,l2,s6,fr2⟩:=(s5.f [3,5]).call (L2:=[pt b (yY p lv mb wb S ev lk gl cl lim),qy 69 2 ev (S.ev.map qu)])
 refine zW (by kernel_rfl) rfl (ss s6 B.ev 1 (kd world S.used)) ?_
 rintro r h5 ⟨ev',s7⟩
 have s8:=fr2 _ _ s7
 simp -implicitDefEqProofs only []
 refine vU (by kernel_rfl) rfl (qS (kd world S.used) _) ?_
 simp -implicitDefEqProofs only [EE,MA,Nat.reduceAdd,Nat.reduceMul,Int.reduceLT,Int.reduceLE,Int.reduceToNat,zF,xI,vO,eK]
 refine xx s8 (by simp [wC]) rfl fun h9 s9 => ?_
 rw [EN (S:=uT S 1 (kd world S.used)) B.hl (vJ (kd world S.used))] at s9
 simp -implicitDefEqProofs only []
 exact ⟨ev',lk,cl,s9.k [0,5,1,6,7,2,3]⟩
theorem IH (s:Sat lo h (YD p b mb wb wn world lim lv gl S ev lk cl)) (B:V0 lim S) (hk:i.op=26)  :
  DC Tryd.prog 48 [yZ b,.pointer (some ⟨q,j,none⟩),i.val] h (fun v h'=>v = .bool (if (zv S 0).k=1 then (uT S 2 (zv S 0).n,true) else (S,false)).2/\qH lo p b mb wb wn world lim lv gl (if (zv S 0).k=1 then (uT S 2 (zv S 0).n,true) else (S,false)).1 h'):=by
 apply xn
 unfold w8 yZ
 simp -implicitDefEqProofs only [EE,Value.cells]
 refine wy s fun b5 h2 s2 => ?_
 have g5:=s2.get
 have gm:=(s2.p 1).get
 unfold yY at gm
 have e14:(xY p lv mb wb S ev lk gl cl lim)[14]? = some (.int .i64 (zv S 0).k):=by kernel_rfl
 have e15:(xY p lv mb wb S ev lk gl cl lim)[15]? = some (.int .i64 (zv S 0).n):=by kernel_rfl
 by_cases k1:(zv S 0).k=1
 ·rw [MK k1]
  simp -implicitDefEqProofs only [EE,nth,↓yW,MA,Nat.reduceAdd,Nat.reduceMul,Int.reduceEq,Int.reduceLT,Int.reduceLE,Int.reduceToNat,yb,zL,xz,zu,vx,zh,xk,xi,xI,vO,eL,Qz,WO,YR,jF,jG,kX,qP,qk,uR,vQ,vw,vi,w5,wJ,wD,wm,xZ,xM,xH,xB,xt,xc,xe,y4,yU,g5,gm,hk,e14,e15,k1]
  obtain ⟨lo2,l2,s6,fr2⟩:=(s2.f [1,3]).call (L2:=[pt b (yY p lv mb wb S ev lk gl cl lim),qy 69 2 ev (S.ev.map qu)])
  refine zW (by kernel_rfl) rfl (ss s6 B.ev 2 (zv S 0).n) ?_
  rintro r h5 ⟨ev',s7⟩
  have s8:=fr2 _ _ s7
  simp -implicitDefEqProofs only []
  exact ⟨ev',lk,cl,s8.k [0,3,1,4,5,6,7]⟩
 ·rw [MJ k1]
  simp -implicitDefEqProofs only [EE,nth,↓yW,MA,Nat.reduceAdd,Nat.reduceMul,Int.reduceEq,Int.reduceLT,Int.reduceLE,Int.reduceToNat,yb,zL,zu,vx,zh,xk,xI,vO,Qz,WO,YR,jF,jG,kX,qP,qk,uR,vQ,vw,vi,w5,wJ,wD,wm,xZ,xM,xH,xB,xt,xc,xe,y4,yU,g5,gm,hk,e14,k1]
  exact ⟨ev,lk,cl,s2.drop⟩
end
structure iR (p:Pg) (i:qt):Prop where
 lo:1<=i.op
 hi:i.op<=26
 r:Hn i.op=true->0<=i.r/\i.r < 16
 m:pT i.op=true->0<=i.m/\i.m < 16
 sub:i.op=3\/i.op=4->jw i.sub
 LF:i.op=6->0<=i.sub/\i.sub < p.globals.length
 frame:i.op=23\/i.op=24->0<=i.k/\i.k<=65536
 call:i.op=21->0<=i.sub/\i.sub < p.funcs.length
theorem Eo {p:Pg} {i:qt} {m:List (Int × Value)} (h:X0 p.globals i=true) (hh:XZ p.funcs.length m i=true):iR p i:=by
 unfold X0 at h
 simp only [MG,Nj] at h
 obtain ⟨h1,h2,h3,h4⟩:=h
 unfold Z7 at h3
 simp only [MG] at h3
 obtain ⟨h5,h6⟩:=h3
 refine ⟨h1,h2,fun q => ?_,fun q => ?_,fun q => ?_,fun q => ?_,fun q => ?_,fun q => ?_⟩
 ·rw [q] at h5
  simp at h5
  omega
 ·rw [q] at h6
  simp at h6
  omega
 ·unfold yX at h4
  rw [MK q] at h4
  simp at h4
  obtain ⟨h7,_⟩:=h4
  unfold jw
  omega
 ·unfold yX at h4
  rw [MJ (by omega),MJ (by omega),MK q] at h4
  simp at h4
  omega
 ·unfold yX at h4
  rw [MJ (by omega),MJ (by omega),MJ (by omega),MJ (by omega),MJ (by omega),MJ (by omega),MJ (by omega),MJ (by omega),MJ (by omega),MJ (by omega),MJ (by omega),MK q] at h4
  simp at h4
  omega
 ·unfold XZ at hh
  rw [q] at hh
  simp at hh
  omega
section
variable {lo:yQ} {h:za} {b mb wb:Nat} {p:Pg} {S:St} {wn lv gl ev lk cl:Value} {world:List Int} {lim:Int} {i:qt} {c:Fr} {ini:List Fr} {q cp:Nat} {f:Fn}
theorem Ha (s:Sat lo h (YD p b mb wb wn world lim lv gl S ev lk cl)) (B:V0 lim S) (hF:Ld c) (hcl:cl = .slice (some ⟨q,0,none⟩) (ini.length + 1) cp) (hc:S.calls=ini ++ [c]) (hn1:ini.length < 4611686018427387900) (hwl:world.length < 4611686018427387904) (hg:Rd lo (zG · gl S.gl)) (hgl:S.gl.length=p.globals.length) (hL:Rd lo (Xd p lv)) (hf:p.funcs[c.f]? = some f) (G:iR p i) :
  DC Tryd.prog 48 [yZ b,.pointer (some ⟨q,ini.length * 7,none⟩),i.val] h (fun v h'=>v = .bool (zi p lim world S c i).2/\qH lo p b mb wb wn world lim lv gl (zi p lim world S c i).1 h'):=by
 have hd:i.op=1\/i.op=2\/i.op=3\/i.op=4\/i.op=5\/i.op=6\/i.op=7\/i.op=8\/i.op=9\/i.op=10\/i.op=11\/i.op=12\/i.op=13\/i.op=14\/i.op=15\/i.op=16\/i.op=17\/i.op=18\/i.op=19\/i.op=20\/i.op=21\/i.op=22\/i.op=23\/i.op=24\/i.op=25\/i.op=26:=by have:=G.lo;have:=G.hi;omega
 rcases hd with hk | hk | hk | hk | hk | hk | hk | hk | hk | hk | hk | hk | hk | hk | hk | hk | hk | hk | hk | hk | hk | hk | hk | hk | hk | hk
 ·have e:zi p lim world S c i=(wF S i.r (zv S i.m),true):=by unfold zi;simp only [hk,Int.reduceEq,MZ,Nb,Nc,MA,MS]
  rw [e]
  exact LL s B hk (G.r (by rw [hk];rfl)).1 (G.r (by rw [hk];rfl)).2 (G.m (by rw [hk];rfl)).1 (G.m (by rw [hk];rfl)).2
 ·have e:zi p lim world S c i=(wF S i.r (vJ i.k),true):=by unfold zi;simp only [hk,Int.reduceEq,MZ,Nb,Nc,MA,MS]
  rw [e]
  exact LM s B hk (G.r (by rw [hk];rfl)).1 (G.r (by rw [hk];rfl)).2
 ·have e:zi p lim world S c i=yC S i:=by unfold zi;simp only [hk,Int.reduceEq,MZ,Nb,Nc,MA,MS]
  rw [e]
  exact LN s B hk (G.r (by rw [hk];rfl)).1 (G.r (by rw [hk];rfl)).2 (G.m (by rw [hk];rfl)).1 (G.m (by rw [hk];rfl)).2 (G.sub (.inl hk))
 ·have e:zi p lim world S c i=yC S i:=by unfold zi;simp only [hk,Int.reduceEq,MZ,Nb,Nc,MA,MS]
  rw [e]
  exact LO s B hk (G.r (by rw [hk];rfl)).1 (G.r (by rw [hk];rfl)).2 (G.m (by rw [hk];rfl)).1 (G.m (by rw [hk];rfl)).2 (G.sub (.inr hk))
 ·have e:zi p lim world S c i=wh S i.r (yf 11 (zv S i.m) (vJ i.k)):=by unfold zi;simp only [hk,Int.reduceEq,MZ,Nb,Nc,MA,MS]
  rw [e]
  exact LQ s B hk (G.r (by rw [hk];rfl)).1 (G.r (by rw [hk];rfl)).2 (G.m (by rw [hk];rfl)).1 (G.m (by rw [hk];rfl)).2
 ·have e:zi p lim world S c i=(wF S i.r (fw (S.gl.getD i.sub.toNat 0) i.k),true):=by unfold zi;simp only [hk,Int.reduceEq,MZ,Nb,Nc,MA,MS]
  rw [e]
  exact LR s B hk (G.r (by rw [hk];rfl)).1 (G.r (by rw [hk];rfl)).2 (G.LF hk).1 (by rw [hgl];exact (G.LF hk).2) hg
 ·have e:zi p lim world S c i=wh S i.r (yf i.sub (zv S i.r) (zv S i.m)):=by unfold zi;simp only [hk,Int.reduceEq,MZ,Nb,Nc,MA,MS]
  rw [e]
  exact LS s B hk (G.r (by rw [hk];rfl)).1 (G.r (by rw [hk];rfl)).2 (G.m (by rw [hk];rfl)).1 (G.m (by rw [hk];rfl)).2
 ·have e:zi p lim world S c i=wh S i.r (yf i.sub (zv S i.r) (vJ i.k)):=by unfold zi;simp only [hk,Int.reduceEq,MZ,Nb,Nc,MA,MS]
  rw [e]
  exact LU s B hk (G.r (by rw [hk];rfl)).1 (G.r (by rw [hk];rfl)).2
 ·have e:zi p lim world S c i=wh S i.r (KJ i.sub (zv S i.r)):=by unfold zi;simp only [hk,Int.reduceEq,MZ,Nb,Nc,MA,MS]
  rw [e]
  exact LV s B hk (G.r (by rw [hk];rfl)).1 (G.r (by rw [hk];rfl)).2
 ·have e:zi p lim world S c i=wh S i.r (KJ i.sub (zv S i.m)):=by unfold zi;simp only [hk,Int.reduceEq,MZ,Nb,Nc,MA,MS]
  rw [e]
  exact Ir s B hk (G.r (by rw [hk];rfl)).1 (G.r (by rw [hk];rfl)).2 (G.m (by rw [hk];rfl)).1 (G.m (by rw [hk];rfl)).2
 ·have e:zi p lim world S c i=wh S i.r (yf i.sub (zv S i.r) (vJ i.k)):=by unfold zi;simp only [hk,Int.reduceEq,MZ,Nb,Nc,MA,MS]
  rw [e]
  exact Is s B hk (G.r (by rw [hk];rfl)).1 (G.r (by rw [hk];rfl)).2
 ·have e:zi p lim world S c i=(if (zv S 1).k=1 then wh S i.r (yf i.sub (zv S i.r) (vJ (Zs (· &&& ·) (zv S 1).n 63))) else (S,false)):=by unfold zi;simp only [hk,Int.reduceEq,MZ,Nb,Nc,MA,MS]
  rw [e]
  exact It s B hk (G.r (by rw [hk];rfl)).1 (G.r (by rw [hk];rfl)).2
 ·have e:zi p lim world S c i=(wF S 2 (Y8 (zv S 0)),decide ((zv S 0).k=1)):=by unfold zi;simp only [hk,Int.reduceEq,MZ,Nb,Nc,MA,MS]
  rw [e]
  exact Iu s B hk
 ·have e:zi p lim world S c i=q9 S (zv S i.m):=by unfold zi;simp only [hk,Int.reduceEq,MZ,Nb,Nc,MA,MS]
  rw [e]
  exact Iv s B hk (G.m (by rw [hk];rfl)).1 (G.m (by rw [hk];rfl)).2
 ·have e:zi p lim world S c i=({ S with flags:=true,a:=zv S i.r,b:=zv S i.m },true):=by unfold zi;simp only [hk,Int.reduceEq,MZ,Nb,Nc,MA,MS]
  rw [e]
  exact Iw s B hk (G.r (by rw [hk];rfl)).1 (G.r (by rw [hk];rfl)).2 (G.m (by rw [hk];rfl)).1 (G.m (by rw [hk];rfl)).2
 ·have e:zi p lim world S c i=({ S with flags:=true,a:=zv S i.r,b:=vJ i.k },true):=by unfold zi;simp only [hk,Int.reduceEq,MZ,Nb,Nc,MA,MS]
  rw [e]
  exact Ix s B hk (G.r (by rw [hk];rfl)).1 (G.r (by rw [hk];rfl)).2
 ·have e:zi p lim world S c i=(if S.flags=true then wh S i.r (yf i.cc S.a S.b) else (S,false)):=by unfold zi;simp only [hk,Int.reduceEq,MZ,Nb,Nc,MA,MS]
  rw [e]
  exact Iy s B hk (G.r (by rw [hk];rfl)).1 (G.r (by rw [hk];rfl)).2
 ·have e:zi p lim world S c i=(qg S { c with pt:=q5 p c.f i.l },true):=by unfold zi;simp only [hk,Int.reduceEq,MZ,Nb,Nc,MA,MS]
  rw [e]
  exact Iz s B hk hcl hc hL hf
 ·have e:zi p lim world S c i=YJ p S c i:=by unfold zi;simp only [hk,Int.reduceEq,MZ,Nb,Nc,MA,MS]
  rw [e]
  exact IA s B hk hcl hc hL hf
 ·have e:zi p lim world S c i=(S,true):=by unfold zi;simp only [hk,Int.reduceEq,MZ,Nb,Nc,MA,MS]
  rw [e]
  exact IB s B hk
 ·have e:zi p lim world S c i=(xX lim (vo { S with flags:=false } 4 i.sub 0) i.sub.toNat,true):=by unfold zi;simp only [hk,Int.reduceEq,MZ,Nb,Nc,MA,MS]
  rw [e]
  exact IC s B hk (G.call hk).1
 ·have e:zi p lim world S c i=kB S c:=by unfold zi;simp only [hk,Int.reduceEq,MZ,Nb,Nc,MA,MS]
  rw [e]
  exact ID s B hk hcl hc hn1
 ·have e:zi p lim world S c i=xK lim S c i:=by unfold zi;simp only [hk,Int.reduceEq,MZ,Nb,Nc,MA,MS]
  rw [e]
  exact IE s B hk hcl hc hF (G.frame (.inl hk)).1 (G.frame (.inl hk)).2
 ·have e:zi p lim world S c i=xK lim S c i:=by unfold zi;simp only [hk,Int.reduceEq,MZ,Nb,Nc,MA,MS]
  rw [e]
  exact IF s B hk hcl hc hF (G.frame (.inr hk)).1 (G.frame (.inr hk)).2
 ·have e:zi p lim world S c i=(wF { uT S 1 (kd world S.used) with used:=S.used + 1 } 0 (vJ (kd world S.used)),true):=by unfold zi;simp only [hk,Int.reduceEq,MZ,Nb,Nc,MA,MS]
  rw [e]
  exact IG s B hk hwl
 ·have e:zi p lim world S c i=(if (zv S 0).k=1 then (uT S 2 (zv S 0).n,true) else (S,false)):=by unfold zi;simp only [hk,Int.reduceEq,MZ,Nb,Nc,MA,MS]
  rw [e]
  exact IH s B hk
end
structure ta (p:Pg) (c:Fr):Prop where
 jU:jw c.jU
 size:0<=c.size/\c.size<=65536
 bV:vb c.bV
 at_:∃ f,p.funcs[c.f]? = some f/\0<=c.pt/\c.pt<=f.code.length
structure qZ (p:Pg) (lim n:Int) (S:St):Prop where
 n0:0<=n
 hl:S.jx.length=16
 hv:∀ r,vb (zv S r)
 va:vb S.a
 iP:vb S.b
 fr:∀ c,c ∈ S.calls->ta p c
 l0:0<=lim
 l1:lim < 4294967296
 s0 : -(65536 * n)<=S.stack
 s1:S.stack<=lim
 lk:(S.lk.length:Int)<=n
 ev:(S.ev.length:Int)<=n
 cs:(S.calls.length:Int)<=n + 1
 used:0<=S.used/\S.used<=n
 mem:VL S.mem
 gl:∀ z,z ∈ S.gl->jw z
 aQ:S.gl.length=p.globals.length
theorem Ma {o:Option V} (h:∀ v,o=some v->vb v):vb (o.getD v0):=by
 cases o with
 | none=>exact U1
 | some v=>exact h v rfl
section
variable {p:Pg} {lim n:Int} {S:St} {c:Fr} {i:qt} {ini:List Fr}
theorem qZ.up (I:qZ p lim n S):qZ p lim (n + 1) S :=
 ⟨by have:=I.n0;omega,I.hl,I.hv,I.va,I.iP,I.fr,I.l0,I.l1,by have:=I.s0;omega,I.s1,by have:=I.lk;omega,by have:=I.ev;omega,by have:=I.cs;omega,⟨I.used.1,by have:=I.used.2;omega⟩,I.mem,I.gl,I.aQ⟩
theorem qZ.set (I:qZ p lim n S) {v:V} (r:Int) (hv:vb v):qZ p lim n (wF S r v):=by
 refine ⟨I.n0,by unfold wF;rw [<- I.hl];exact NU ..,fun r' => ?_,I.va,I.iP,I.fr,I.l0,I.l1,I.s0,I.s1,I.lk,I.ev,I.cs,I.used,I.mem,I.gl,I.aQ⟩
 unfold zv wF
 unfold pA
 split
 ·exact U1
 ·show vb ((S.jx.set r.toNat v).getD r'.toNat v0)
  rw [Nk,List.getElem?_set]
  split
  ·split
   ·exact hv
   ·exact U1
  ·have:=I.hv r'
   unfold zv pA at this
   rw [MJ (by assumption),Nk] at this
   exact this
theorem qZ.res (I:qZ p lim n S) {o:Option V} (r:Int) (h:∀ v,o=some v->vb v):qZ p lim n (wh S r o).1:=I.set r (Ma h)
theorem qZ.top (I:qZ p lim n S) (hne:S.calls ≠ []) (h:ta p c):qZ p lim n (qg S c):=by
 have hpos:0 < S.calls.length:=List.length_pos_iff.2 hne
 refine ⟨I.n0,I.hl,I.hv,I.va,I.iP,fun d hd => ?_,I.l0,I.l1,I.s0,I.s1,I.lk,I.ev,?_,I.used,I.mem,I.gl,I.aQ⟩
 ·rcases Ns.1 hd with q | q
  ·exact I.fr d (List.dropLast_subset _ q)
  ·simp only [NZ] at q;subst q;exact h
 ·show ((S.calls.dropLast ++ [c]).length:Int)<=n + 1
  have:=I.cs
  simp only [OF,List.length_dropLast,List.length_singleton]
  omega
theorem qZ.pG (I:qZ p lim n S) (k a b:Int):qZ p lim (n + 1) (vo S k a b) :=
 ⟨I.up.n0,I.hl,I.hv,I.va,I.iP,I.fr,I.l0,I.l1,I.up.s0,I.s1,by show ((S.lk ++ [(k,a,b)]).length:Int)<=n + 1;have:=I.lk;simp;omega,I.up.ev,I.up.cs,I.up.used,I.mem,I.gl,I.aQ⟩
theorem qZ.event (I:qZ p lim n S) (k a:Int):qZ p lim (n + 1) (uT S k a) :=
 ⟨I.up.n0,I.hl,I.hv,I.va,I.iP,I.fr,I.l0,I.l1,I.up.s0,I.s1,I.up.lk,by show ((S.ev ++ [(k,a)]).length:Int)<=n + 1;have:=I.ev;simp;omega,I.up.cs,I.up.used,I.mem,I.gl,I.aQ⟩
theorem qZ.grow (I:qZ p lim n S) {k:Int} (h:0<=k):qZ p lim n (xD lim S k).1:=by
 unfold xD
 split
 ·exact ⟨I.n0,I.hl,I.hv,I.va,I.iP,I.fr,I.l0,I.l1,I.s0,I.s1,I.lk,I.ev,I.cs,I.used,I.mem,I.gl,I.aQ⟩
 ·exact ⟨I.n0,I.hl,I.hv,I.va,I.iP,I.fr,I.l0,I.l1,by have:=I.s0;show _<=S.stack + k;omega,by show S.stack + k<=lim;omega,I.lk,I.ev,I.cs,I.used,I.mem,I.gl,I.aQ⟩
theorem XF (lim:Int) (S:St) (k:Int):(xD lim S k).1.calls=S.calls/\(xD lim S k).1.mem=S.mem:=by unfold xD;split <;> exact ⟨rfl,rfl⟩
theorem qZ.enter (I:qZ p lim n S) {f:Nat} {g:Fn} (hf:p.funcs[f]? = some g) (hcs:(S.calls.length:Int)<=n):qZ p lim n (xX lim S f):=by
 have G:=I.grow (k:=8) (by decide)
 unfold xX
 split
 ·refine ⟨G.n0,G.hl,G.hv,G.va,G.iP,fun d hd => ?_,G.l0,G.l1,G.s0,G.s1,G.lk,G.ev,?_,G.used,G.mem,G.gl,G.aQ⟩
  ·rcases Ns.1 hd with q | q
   ·exact G.fr d q
   ·simp only [NZ] at q;subst q
    exact ⟨YI,⟨OL 0,by show (0:Int)<=65536;decide⟩,U1,g,hf,OL 0,Int.natCast_nonneg _⟩
  ·show (((xD lim S 8).1.calls ++ [_]).length:Int)<=n + 1
   rw [(XF lim S 8).1]
   simp only [OF,List.length_singleton]
   omega
 ·exact G
theorem qZ.access (I:qZ p lim n S) (i:qt):qZ p lim (n + 1) (yC S i).1:=by
 unfold yC
 split
 ·exact I.up
 ·rename_i q hq
  split
  ·split
   ·split
    ·exact I.pG 2 q.b q.n
    ·rename_i M hM
     have L:=I.pG 2 q.b q.n
     exact ⟨L.n0,L.hl,L.hv,L.va,L.iP,L.fr,L.l0,L.l1,L.s0,L.s1,L.lk,L.ev,L.cs,L.used,pO I.mem (I.hv i.r) hM,L.gl,L.aQ⟩
   ·exact (I.pG 2 q.b q.n).res i.r fun v e=>AK I.mem e
  ·exact I.up
theorem qZ.div (I:qZ p lim n S) {m:V} (hm:vb m):qZ p lim (n + 1) (q9 S m).1:=by
 unfold q9
 split
 ·have L:=I.pG 3 (zv S 0).n m.n
  have h1:∀ o,∀ v,yf o (zv S 0) m=some v->vb v:=fun o v e=>WA (I.hv 0) hm e
  split
  ·split
   ·exact (L.res 0 (h1 14)).res 2 (h1 15)
   ·exact L.res 0 (h1 14)
  ·exact L
 ·exact I.up
theorem qZ.ret (I:qZ p lim n S) (c:Fr):qZ p lim (n + 1) (kB S c).1:=by
 have D:∀ (k e:Int),qZ p lim (n + 1) { S with flags:=false,stack:=S.stack - 8,calls:=S.calls.dropLast,kind:=k,exit:=e }:=fun k e=>by
  refine ⟨I.up.n0,I.hl,I.hv,I.va,I.iP,fun d hd=>I.fr d (List.dropLast_subset _ hd),I.l0,I.l1,by have:=I.s0;show _<=S.stack - 8;omega,by have:=I.s1;show S.stack - 8<=lim;omega,I.up.lk,I.up.ev,?_,I.up.used,I.mem,I.gl,I.aQ⟩
  show ((S.calls.dropLast).length:Int)<=_
  have:=I.cs
  rw [List.length_dropLast];omega
 unfold kB
 split
 ·exact I.up
 ·split
  ·exact D S.kind S.exit
  ·rename_i h2
   have e:S.calls.dropLast = []:=by
    cases h:S.calls.dropLast with
    | nil=>rfl
    | cons a l=>exact absurd h (fun q=>h2 (by rw [q];simp))
   split
   ·have:=D 1 (zv S 0).n;rw [e] at this;exact this
   ·have:=D S.kind S.exit;rw [e] at this;exact this
theorem qZ.frame (I:qZ p lim n S) (hne:S.calls ≠ []) (hc:ta p c) {i:qt} (k0:0<=i.k) (k1:i.k<=65536):qZ p lim (n + 1) (xK lim S c i).1:=by
 unfold xK
 split
 ·split
  ·exact I.up
  ·refine qZ.top (c:={ c with jU:=0 }) ?_ hne ⟨YI,hc.size,hc.bV,hc.at_⟩
   refine qZ.set ?_ 4 hc.bV
   have hs:=hc.size
   refine ⟨I.up.n0,I.hl,I.hv,I.va,I.iP,I.fr,I.l0,I.l1,by have:=I.s0;show _<=S.stack - c.size;omega,by have:=I.s1;show S.stack - c.size<=lim;omega,I.up.lk,I.up.ev,I.up.cs,I.up.used,AJ I.mem,I.gl,I.aQ⟩
 ·split
  ·exact I.up
  ·have G:=I.up.grow k0
   have ha:=VM i.k I.mem
   split
   ·refine qZ.top (c:={ c with jU:=(xJ S.mem i.k).2.1,size:=i.k,bV:=zv S 4 }) ?_ (by show (xD lim S i.k).1.calls ≠ [];rw [(XF lim S i.k).1];exact hne) ⟨ha.2,⟨k0,k1⟩,I.hv 4,hc.at_⟩
    refine qZ.set ?_ 4 (nI ha.2)
    exact ⟨G.n0,G.hl,G.hv,G.va,G.iP,G.fr,G.l0,G.l1,G.s0,G.s1,G.lk,G.ev,G.cs,G.used,ha.1,G.gl,G.aQ⟩
   ·exact G
theorem nk:∀ (xs:List qt) (l k z m:Int),0<=k->m=k + xs.length->0<=z->z<=m->0<=VR xs l k z/\VR xs l k z<=m
 | [],l,k,z,m,_,_,h0,h1=>⟨h0,h1⟩
 | x :: xs,l,k,z,m,hk,hm,h0,h1=>by
   have hm:m=k + ((xs.length + 1:Nat):Int):=hm
   refine nk xs l (k + 1) _ m (by omega) (by omega) ?_ ?_
   ·split <;> omega
   ·split <;> omega
theorem ta.yB (h:ta p c) (l:Int):ta p { c with pt:=q5 p c.f l }:=by
 obtain ⟨f,hf,_,_⟩:=h.at_
 refine ⟨h.jU,h.size,h.bV,f,hf,?_⟩
 have e:q5 p c.f l=VR f.code l 0 0:=by unfold q5;rw [hf]
 show 0<=q5 p c.f l/\q5 p c.f l<=f.code.length
 rw [e]
 exact nk f.code l 0 0 _ (by decide) (by omega) (by decide) (Int.natCast_nonneg _)
theorem qZ.Mo (I:qZ p lim n S) (hne:S.calls ≠ []) (hc:ta p c) (i:qt):qZ p lim (n + 1) (YJ p S c i).1:=by
 unfold YJ
 split
 ·exact I.up
 ·rename_i v hv
  split
  ·show qZ p lim (n + 1) (if v.n=0 then _ else _)
   split
   ·exact I.pG 1 v.n 0
   ·exact (I.pG 1 v.n 0).top hne (hc.yB i.l)
  ·exact I.up
theorem qZ.flag (I:qZ p lim n S) (f:Bool) {a b:V} (ha:vb a) (hb:vb b):qZ p lim n { S with flags:=f,a:=a,b:=b } :=
 ⟨I.n0,I.hl,I.hv,ha,hb,I.fr,I.l0,I.l1,I.s0,I.s1,I.lk,I.ev,I.cs,I.used,I.mem,I.gl,I.aQ⟩
theorem G9 (I:qZ p lim n S) (world:List Int) (hne:S.calls ≠ []) (hc:ta p c) (hcs:(S.calls.length:Int)<=n + 1) (G:iR p i):qZ p lim (n + 1) (zi p lim world S c i).1:=by
 have hd:i.op=1\/i.op=2\/i.op=3\/i.op=4\/i.op=5\/i.op=6\/i.op=7\/i.op=8\/i.op=9\/i.op=10\/i.op=11\/i.op=12\/i.op=13\/i.op=14\/i.op=15\/i.op=16\/i.op=17\/i.op=18\/i.op=19\/i.op=20\/i.op=21\/i.op=22\/i.op=23\/i.op=24\/i.op=25\/i.op=26:=by have:=G.lo;have:=G.hi;omega
 rcases hd with hk | hk | hk | hk | hk | hk | hk | hk | hk | hk | hk | hk | hk | hk | hk | hk | hk | hk | hk | hk | hk | hk | hk | hk | hk | hk
 ·have e:zi p lim world S c i=(wF S i.r (zv S i.m),true):=by unfold zi;simp only [hk,Int.reduceEq,MZ,Nb,Nc,MA,MS]
  rw [e]
  exact I.up.set _ (I.hv _)
 ·have e:zi p lim world S c i=(wF S i.r (vJ i.k),true):=by unfold zi;simp only [hk,Int.reduceEq,MZ,Nb,Nc,MA,MS]
  rw [e]
  exact I.up.set _ (XX _)
 ·have e:zi p lim world S c i=yC S i:=by unfold zi;simp only [hk,Int.reduceEq,MZ,Nb,Nc,MA,MS]
  rw [e]
  exact I.access i
 ·have e:zi p lim world S c i=yC S i:=by unfold zi;simp only [hk,Int.reduceEq,MZ,Nb,Nc,MA,MS]
  rw [e]
  exact I.access i
 ·have e:zi p lim world S c i=wh S i.r (yf 11 (zv S i.m) (vJ i.k)):=by unfold zi;simp only [hk,Int.reduceEq,MZ,Nb,Nc,MA,MS]
  rw [e]
  exact I.up.res _ (fun v e=>WA (I.hv _) (XX _) e)
 ·have e:zi p lim world S c i=(wF S i.r (fw (S.gl.getD i.sub.toNat 0) i.k),true):=by unfold zi;simp only [hk,Int.reduceEq,MZ,Nb,Nc,MA,MS]
  rw [e]
  refine I.up.set _ (nI ?_)
  have s0:=G.LF hk
  rw [Nk,MF (by rw [I.aQ];omega)]
  exact I.gl _ (List.getElem_mem _)
 ·have e:zi p lim world S c i=wh S i.r (yf i.sub (zv S i.r) (zv S i.m)):=by unfold zi;simp only [hk,Int.reduceEq,MZ,Nb,Nc,MA,MS]
  rw [e]
  exact I.up.res _ (fun v e=>WA (I.hv _) (I.hv _) e)
 ·have e:zi p lim world S c i=wh S i.r (yf i.sub (zv S i.r) (vJ i.k)):=by unfold zi;simp only [hk,Int.reduceEq,MZ,Nb,Nc,MA,MS]
  rw [e]
  exact I.up.res _ (fun v e=>WA (I.hv _) (XX _) e)
 ·have e:zi p lim world S c i=wh S i.r (KJ i.sub (zv S i.r)):=by unfold zi;simp only [hk,Int.reduceEq,MZ,Nb,Nc,MA,MS]
  rw [e]
  exact I.up.res _ (fun v e=>FR e)
 ·have e:zi p lim world S c i=wh S i.r (KJ i.sub (zv S i.m)):=by unfold zi;simp only [hk,Int.reduceEq,MZ,Nb,Nc,MA,MS]
  rw [e]
  exact I.up.res _ (fun v e=>FR e)
 ·have e:zi p lim world S c i=wh S i.r (yf i.sub (zv S i.r) (vJ i.k)):=by unfold zi;simp only [hk,Int.reduceEq,MZ,Nb,Nc,MA,MS]
  rw [e]
  exact I.up.res _ (fun v e=>WA (I.hv _) (XX _) e)
 ·have e:zi p lim world S c i=(if (zv S 1).k=1 then wh S i.r (yf i.sub (zv S i.r) (vJ (Zs (· &&& ·) (zv S 1).n 63))) else (S,false)):=by unfold zi;simp only [hk,Int.reduceEq,MZ,Nb,Nc,MA,MS]
  rw [e]
  split
  ·exact I.up.res _ (fun v e=>WA (I.hv _) (XX _) e)
  ·exact I.up
 ·have e:zi p lim world S c i=(wF S 2 (Y8 (zv S 0)),decide ((zv S 0).k=1)):=by unfold zi;simp only [hk,Int.reduceEq,MZ,Nb,Nc,MA,MS]
  rw [e]
  exact I.up.set _ (XX _)
 ·have e:zi p lim world S c i=q9 S (zv S i.m):=by unfold zi;simp only [hk,Int.reduceEq,MZ,Nb,Nc,MA,MS]
  rw [e]
  exact I.div (I.hv _)
 ·have e:zi p lim world S c i=({ S with flags:=true,a:=zv S i.r,b:=zv S i.m },true):=by unfold zi;simp only [hk,Int.reduceEq,MZ,Nb,Nc,MA,MS]
  rw [e]
  exact I.up.flag true (I.hv _) (I.hv _)
 ·have e:zi p lim world S c i=({ S with flags:=true,a:=zv S i.r,b:=vJ i.k },true):=by unfold zi;simp only [hk,Int.reduceEq,MZ,Nb,Nc,MA,MS]
  rw [e]
  exact I.up.flag true (I.hv _) (XX _)
 ·have e:zi p lim world S c i=(if S.flags=true then wh S i.r (yf i.cc S.a S.b) else (S,false)):=by unfold zi;simp only [hk,Int.reduceEq,MZ,Nb,Nc,MA,MS]
  rw [e]
  split
  ·exact I.up.res _ (fun v e=>WA I.va I.iP e)
  ·exact I.up
 ·have e:zi p lim world S c i=(qg S { c with pt:=q5 p c.f i.l },true):=by unfold zi;simp only [hk,Int.reduceEq,MZ,Nb,Nc,MA,MS]
  rw [e]
  exact I.up.top hne (hc.yB _)
 ·have e:zi p lim world S c i=YJ p S c i:=by unfold zi;simp only [hk,Int.reduceEq,MZ,Nb,Nc,MA,MS]
  rw [e]
  exact I.Mo hne hc i
 ·have e:zi p lim world S c i=(S,true):=by unfold zi;simp only [hk,Int.reduceEq,MZ,Nb,Nc,MA,MS]
  rw [e]
  exact I.up
 ·have e:zi p lim world S c i=(xX lim (vo { S with flags:=false } 4 i.sub 0) i.sub.toNat,true):=by unfold zi;simp only [hk,Int.reduceEq,MZ,Nb,Nc,MA,MS]
  rw [e]
  obtain ⟨g,hg⟩:∃ g,p.funcs[i.sub.toNat]? = some g:=⟨_,MF (by have:=G.call hk;omega)⟩
  exact ((I.flag false I.va I.iP).pG 4 i.sub 0).enter hg hcs
 ·have e:zi p lim world S c i=kB S c:=by unfold zi;simp only [hk,Int.reduceEq,MZ,Nb,Nc,MA,MS]
  rw [e]
  exact I.ret c
 ·have e:zi p lim world S c i=xK lim S c i:=by unfold zi;simp only [hk,Int.reduceEq,MZ,Nb,Nc,MA,MS]
  rw [e]
  exact I.frame hne hc (G.frame (.inl hk)).1 (G.frame (.inl hk)).2
 ·have e:zi p lim world S c i=xK lim S c i:=by unfold zi;simp only [hk,Int.reduceEq,MZ,Nb,Nc,MA,MS]
  rw [e]
  exact I.frame hne hc (G.frame (.inr hk)).1 (G.frame (.inr hk)).2
 ·have e:zi p lim world S c i=(wF { uT S 1 (kd world S.used) with used:=S.used + 1 } 0 (vJ (kd world S.used)),true):=by unfold zi;simp only [hk,Int.reduceEq,MZ,Nb,Nc,MA,MS]
  rw [e]
  have E:=I.event 1 (kd world S.used)
  exact qZ.set (S:={ uT S 1 (kd world S.used) with used:=S.used + 1 }) ⟨E.n0,E.hl,E.hv,E.va,E.iP,E.fr,E.l0,E.l1,E.s0,E.s1,E.lk,E.ev,E.cs,⟨by have:=I.used;show 0<=S.used + 1;omega,by have:=I.used;show S.used + 1<=n + 1;omega⟩,E.mem,E.gl,E.aQ⟩ 0 (XX _)
 ·have e:zi p lim world S c i=(if (zv S 0).k=1 then (uT S 2 (zv S 0).n,true) else (S,false)):=by unfold zi;simp only [hk,Int.reduceEq,MZ,Nb,Nc,MA,MS]
  rw [e]
  split
  ·exact I.event 2 _
  ·exact I.up
theorem VU (S:St) (c:Fr):(qg S c).calls ≠ []:=by unfold qg;simp
theorem EU {world:List Int} (hne:S.calls ≠ []) (G:iR p i) (h1:(zi p lim world S c i).2=true) (h2:(zi p lim world S c i).1.kind=0):(zi p lim world S c i).1.calls ≠ []:=by
 have hd:i.op=1\/i.op=2\/i.op=3\/i.op=4\/i.op=5\/i.op=6\/i.op=7\/i.op=8\/i.op=9\/i.op=10\/i.op=11\/i.op=12\/i.op=13\/i.op=14\/i.op=15\/i.op=16\/i.op=17\/i.op=18\/i.op=19\/i.op=20\/i.op=21\/i.op=22\/i.op=23\/i.op=24\/i.op=25\/i.op=26:=by have:=G.lo;have:=G.hi;omega
 rcases hd with hk | hk | hk | hk | hk | hk | hk | hk | hk | hk | hk | hk | hk | hk | hk | hk | hk | hk | hk | hk | hk | hk | hk | hk | hk | hk
 ·have e:zi p lim world S c i=(wF S i.r (zv S i.m),true):=by unfold zi;simp only [hk,Int.reduceEq,MZ,Nb,Nc,MA,MS]
  rw [e]
  exact hne
 ·have e:zi p lim world S c i=(wF S i.r (vJ i.k),true):=by unfold zi;simp only [hk,Int.reduceEq,MZ,Nb,Nc,MA,MS]
  rw [e]
  exact hne
 ·have e:zi p lim world S c i=yC S i:=by unfold zi;simp only [hk,Int.reduceEq,MZ,Nb,Nc,MA,MS]
  rw [e]
  rw [(Yj S i).2.1];exact hne
 ·have e:zi p lim world S c i=yC S i:=by unfold zi;simp only [hk,Int.reduceEq,MZ,Nb,Nc,MA,MS]
  rw [e]
  rw [(Yj S i).2.1];exact hne
 ·have e:zi p lim world S c i=wh S i.r (yf 11 (zv S i.m) (vJ i.k)):=by unfold zi;simp only [hk,Int.reduceEq,MZ,Nb,Nc,MA,MS]
  rw [e]
  exact hne
 ·have e:zi p lim world S c i=(wF S i.r (fw (S.gl.getD i.sub.toNat 0) i.k),true):=by unfold zi;simp only [hk,Int.reduceEq,MZ,Nb,Nc,MA,MS]
  rw [e]
  exact hne
 ·have e:zi p lim world S c i=wh S i.r (yf i.sub (zv S i.r) (zv S i.m)):=by unfold zi;simp only [hk,Int.reduceEq,MZ,Nb,Nc,MA,MS]
  rw [e]
  exact hne
 ·have e:zi p lim world S c i=wh S i.r (yf i.sub (zv S i.r) (vJ i.k)):=by unfold zi;simp only [hk,Int.reduceEq,MZ,Nb,Nc,MA,MS]
  rw [e]
  exact hne
 ·have e:zi p lim world S c i=wh S i.r (KJ i.sub (zv S i.r)):=by unfold zi;simp only [hk,Int.reduceEq,MZ,Nb,Nc,MA,MS]
  rw [e]
  exact hne
 ·have e:zi p lim world S c i=wh S i.r (KJ i.sub (zv S i.m)):=by unfold zi;simp only [hk,Int.reduceEq,MZ,Nb,Nc,MA,MS]
  rw [e]
  exact hne
 ·have e:zi p lim world S c i=wh S i.r (yf i.sub (zv S i.r) (vJ i.k)):=by unfold zi;simp only [hk,Int.reduceEq,MZ,Nb,Nc,MA,MS]
  rw [e]
  exact hne
 ·have e:zi p lim world S c i=(if (zv S 1).k=1 then wh S i.r (yf i.sub (zv S i.r) (vJ (Zs (· &&& ·) (zv S 1).n 63))) else (S,false)):=by unfold zi;simp only [hk,Int.reduceEq,MZ,Nb,Nc,MA,MS]
  rw [e]
  split <;> exact hne
 ·have e:zi p lim world S c i=(wF S 2 (Y8 (zv S 0)),decide ((zv S 0).k=1)):=by unfold zi;simp only [hk,Int.reduceEq,MZ,Nb,Nc,MA,MS]
  rw [e]
  exact hne
 ·have e:zi p lim world S c i=q9 S (zv S i.m):=by unfold zi;simp only [hk,Int.reduceEq,MZ,Nb,Nc,MA,MS]
  rw [e]
  rw [(mC S _).2.1];exact hne
 ·have e:zi p lim world S c i=({ S with flags:=true,a:=zv S i.r,b:=zv S i.m },true):=by unfold zi;simp only [hk,Int.reduceEq,MZ,Nb,Nc,MA,MS]
  rw [e]
  exact hne
 ·have e:zi p lim world S c i=({ S with flags:=true,a:=zv S i.r,b:=vJ i.k },true):=by unfold zi;simp only [hk,Int.reduceEq,MZ,Nb,Nc,MA,MS]
  rw [e]
  exact hne
 ·have e:zi p lim world S c i=(if S.flags=true then wh S i.r (yf i.cc S.a S.b) else (S,false)):=by unfold zi;simp only [hk,Int.reduceEq,MZ,Nb,Nc,MA,MS]
  rw [e]
  split <;> exact hne
 ·have e:zi p lim world S c i=(qg S { c with pt:=q5 p c.f i.l },true):=by unfold zi;simp only [hk,Int.reduceEq,MZ,Nb,Nc,MA,MS]
  rw [e]
  exact VU S _
 ·have e:zi p lim world S c i=YJ p S c i:=by unfold zi;simp only [hk,Int.reduceEq,MZ,Nb,Nc,MA,MS]
  rw [e]
  unfold YJ
  split
  ·exact hne
  ·split
   ·show (if _=0 then _ else _:St).calls ≠ []
    split
    ·exact hne
    ·exact VU _ _
   ·exact hne
 ·have e:zi p lim world S c i=(S,true):=by unfold zi;simp only [hk,Int.reduceEq,MZ,Nb,Nc,MA,MS]
  rw [e]
  exact hne
 ·have e:zi p lim world S c i=(xX lim (vo { S with flags:=false } 4 i.sub 0) i.sub.toNat,true):=by unfold zi;simp only [hk,Int.reduceEq,MZ,Nb,Nc,MA,MS]
  rw [e]
  unfold xX
  split
  ·simp
  ·rw [(XF lim _ 8).1];exact hne
 ·have e:zi p lim world S c i=kB S c:=by unfold zi;simp only [hk,Int.reduceEq,MZ,Nb,Nc,MA,MS]
  rw [e]
  rw [e] at h1 h2
  unfold kB at h1 h2 ⊢
  by_cases a:c.jU ≠ 0
  ·rw [MK a] at h1;cases h1
  ·rw [MJ a] at h1 h2 ⊢
   by_cases b:S.calls.dropLast ≠ []
   ·rw [MK b];exact b
   ·rw [MJ b] at h1 h2 ⊢
    by_cases d:(zv S 0).k=1
    ·rw [MK d] at h2;cases h2
    ·rw [MJ d] at h1;cases h1
 ·have e:zi p lim world S c i=xK lim S c i:=by unfold zi;simp only [hk,Int.reduceEq,MZ,Nb,Nc,MA,MS]
  rw [e]
  unfold xK
  rw [MJ (by omega)]
  split
  ·exact hne
  ·split
   ·exact VU _ _
   ·rw [(XF lim S _).1];exact hne
 ·have e:zi p lim world S c i=xK lim S c i:=by unfold zi;simp only [hk,Int.reduceEq,MZ,Nb,Nc,MA,MS]
  rw [e]
  unfold xK
  rw [MK hk]
  split
  ·exact hne
  ·exact VU _ _
 ·have e:zi p lim world S c i=(wF { uT S 1 (kd world S.used) with used:=S.used + 1 } 0 (vJ (kd world S.used)),true):=by unfold zi;simp only [hk,Int.reduceEq,MZ,Nb,Nc,MA,MS]
  rw [e]
  exact hne
 ·have e:zi p lim world S c i=(if (zv S 0).k=1 then (uT S 2 (zv S 0).n,true) else (S,false)):=by unfold zi;simp only [hk,Int.reduceEq,MZ,Nb,Nc,MA,MS]
  rw [e]
  split <;> exact hne
theorem ij (lim:Int) (S:St) (k:Int):(xD lim S k).1.gl=S.gl/\(xD lim S k).1.steps=S.steps:=by unfold xD;split <;> exact ⟨rfl,rfl⟩
theorem fh (S:St) (i:qt):(yC S i).1.gl=S.gl/\(yC S i).1.steps=S.steps:=by
 unfold yC
 split
 ·exact ⟨rfl,rfl⟩
 ·split
  ·split
   ·split <;> exact ⟨rfl,rfl⟩
   ·exact ⟨rfl,rfl⟩
  ·exact ⟨rfl,rfl⟩
theorem Gt (S:St) (m:V):(q9 S m).1.gl=S.gl/\(q9 S m).1.steps=S.steps:=by
 unfold q9
 split
 ·split
  ·split <;> exact ⟨rfl,rfl⟩
  ·exact ⟨rfl,rfl⟩
 ·exact ⟨rfl,rfl⟩
theorem G0 (S:St) (c:Fr):(kB S c).1.gl=S.gl/\(kB S c).1.steps=S.steps:=by
 unfold kB
 split
 ·exact ⟨rfl,rfl⟩
 ·split
  ·exact ⟨rfl,rfl⟩
  ·split <;> exact ⟨rfl,rfl⟩
theorem mQ (lim:Int) (S:St) (c:Fr) (i:qt):(xK lim S c i).1.gl=S.gl/\(xK lim S c i).1.steps=S.steps:=by
 unfold xK
 split
 ·split <;> exact ⟨rfl,rfl⟩
 ·split
  ·exact ⟨rfl,rfl⟩
  ·split
   ·exact ij lim S i.k
   ·exact ij lim S i.k
theorem GG (p:Pg) (S:St) (c:Fr) (i:qt):(YJ p S c i).1.gl=S.gl/\(YJ p S c i).1.steps=S.steps:=by
 unfold YJ
 split
 ·exact ⟨rfl,rfl⟩
 ·split
  ·show (if _=0 then _ else _:St).gl=_/\(if _=0 then _ else _:St).steps=_
   split <;> exact ⟨rfl,rfl⟩
  ·exact ⟨rfl,rfl⟩
theorem mF (lim:Int) (S:St) (f:Nat):(xX lim S f).gl=S.gl/\(xX lim S f).steps=S.steps:=by
 unfold xX
 split <;> exact ij lim S 8
theorem ET (lim:Int) (world:List Int) (S:St) (c:Fr) (G:iR p i):(zi p lim world S c i).1.gl=S.gl/\(zi p lim world S c i).1.steps=S.steps:=by
 have hd:i.op=1\/i.op=2\/i.op=3\/i.op=4\/i.op=5\/i.op=6\/i.op=7\/i.op=8\/i.op=9\/i.op=10\/i.op=11\/i.op=12\/i.op=13\/i.op=14\/i.op=15\/i.op=16\/i.op=17\/i.op=18\/i.op=19\/i.op=20\/i.op=21\/i.op=22\/i.op=23\/i.op=24\/i.op=25\/i.op=26:=by have:=G.lo;have:=G.hi;omega
 rcases hd with hk | hk | hk | hk | hk | hk | hk | hk | hk | hk | hk | hk | hk | hk | hk | hk | hk | hk | hk | hk | hk | hk | hk | hk | hk | hk
 ·have e:zi p lim world S c i=(wF S i.r (zv S i.m),true):=by unfold zi;simp only [hk,Int.reduceEq,MZ,Nb,Nc,MA,MS]
  rw [e]
  exact ⟨rfl,rfl⟩
 ·have e:zi p lim world S c i=(wF S i.r (vJ i.k),true):=by unfold zi;simp only [hk,Int.reduceEq,MZ,Nb,Nc,MA,MS]
  rw [e]
  exact ⟨rfl,rfl⟩
 ·have e:zi p lim world S c i=yC S i:=by unfold zi;simp only [hk,Int.reduceEq,MZ,Nb,Nc,MA,MS]
  rw [e]
  exact fh S i
 ·have e:zi p lim world S c i=yC S i:=by unfold zi;simp only [hk,Int.reduceEq,MZ,Nb,Nc,MA,MS]
  rw [e]
  exact fh S i
 ·have e:zi p lim world S c i=wh S i.r (yf 11 (zv S i.m) (vJ i.k)):=by unfold zi;simp only [hk,Int.reduceEq,MZ,Nb,Nc,MA,MS]
  rw [e]
  exact ⟨rfl,rfl⟩
 ·have e:zi p lim world S c i=(wF S i.r (fw (S.gl.getD i.sub.toNat 0) i.k),true):=by unfold zi;simp only [hk,Int.reduceEq,MZ,Nb,Nc,MA,MS]
  rw [e]
  exact ⟨rfl,rfl⟩
 ·have e:zi p lim world S c i=wh S i.r (yf i.sub (zv S i.r) (zv S i.m)):=by unfold zi;simp only [hk,Int.reduceEq,MZ,Nb,Nc,MA,MS]
  rw [e]
  exact ⟨rfl,rfl⟩
 ·have e:zi p lim world S c i=wh S i.r (yf i.sub (zv S i.r) (vJ i.k)):=by unfold zi;simp only [hk,Int.reduceEq,MZ,Nb,Nc,MA,MS]
  rw [e]
  exact ⟨rfl,rfl⟩
 ·have e:zi p lim world S c i=wh S i.r (KJ i.sub (zv S i.r)):=by unfold zi;simp only [hk,Int.reduceEq,MZ,Nb,Nc,MA,MS]
  rw [e]
  exact ⟨rfl,rfl⟩
 ·have e:zi p lim world S c i=wh S i.r (KJ i.sub (zv S i.m)):=by unfold zi;simp only [hk,Int.reduceEq,MZ,Nb,Nc,MA,MS]
  rw [e]
  exact ⟨rfl,rfl⟩
 ·have e:zi p lim world S c i=wh S i.r (yf i.sub (zv S i.r) (vJ i.k)):=by unfold zi;simp only [hk,Int.reduceEq,MZ,Nb,Nc,MA,MS]
  rw [e]
  exact ⟨rfl,rfl⟩
 ·have e:zi p lim world S c i=(if (zv S 1).k=1 then wh S i.r (yf i.sub (zv S i.r) (vJ (Zs (· &&& ·) (zv S 1).n 63))) else (S,false)):=by unfold zi;simp only [hk,Int.reduceEq,MZ,Nb,Nc,MA,MS]
  rw [e]
  split <;> exact ⟨rfl,rfl⟩
 ·have e:zi p lim world S c i=(wF S 2 (Y8 (zv S 0)),decide ((zv S 0).k=1)):=by unfold zi;simp only [hk,Int.reduceEq,MZ,Nb,Nc,MA,MS]
  rw [e]
  exact ⟨rfl,rfl⟩
 ·have e:zi p lim world S c i=q9 S (zv S i.m):=by unfold zi;simp only [hk,Int.reduceEq,MZ,Nb,Nc,MA,MS]
  rw [e]
  exact Gt S _
 ·have e:zi p lim world S c i=({ S with flags:=true,a:=zv S i.r,b:=zv S i.m },true):=by unfold zi;simp only [hk,Int.reduceEq,MZ,Nb,Nc,MA,MS]
  rw [e]
  exact ⟨rfl,rfl⟩
 ·have e:zi p lim world S c i=({ S with flags:=true,a:=zv S i.r,b:=vJ i.k },true):=by unfold zi;simp only [hk,Int.reduceEq,MZ,Nb,Nc,MA,MS]
  rw [e]
  exact ⟨rfl,rfl⟩
 ·have e:zi p lim world S c i=(if S.flags=true then wh S i.r (yf i.cc S.a S.b) else (S,false)):=by unfold zi;simp only [hk,Int.reduceEq,MZ,Nb,Nc,MA,MS]
  rw [e]
  split <;> exact ⟨rfl,rfl⟩
 ·have e:zi p lim world S c i=(qg S { c with pt:=q5 p c.f i.l },true):=by unfold zi;simp only [hk,Int.reduceEq,MZ,Nb,Nc,MA,MS]
  rw [e]
  exact ⟨rfl,rfl⟩
 ·have e:zi p lim world S c i=YJ p S c i:=by unfold zi;simp only [hk,Int.reduceEq,MZ,Nb,Nc,MA,MS]
  rw [e]
  exact GG p S c i
 ·have e:zi p lim world S c i=(S,true):=by unfold zi;simp only [hk,Int.reduceEq,MZ,Nb,Nc,MA,MS]
  rw [e]
  exact ⟨rfl,rfl⟩
 ·have e:zi p lim world S c i=(xX lim (vo { S with flags:=false } 4 i.sub 0) i.sub.toNat,true):=by unfold zi;simp only [hk,Int.reduceEq,MZ,Nb,Nc,MA,MS]
  rw [e]
  exact mF lim _ _
 ·have e:zi p lim world S c i=kB S c:=by unfold zi;simp only [hk,Int.reduceEq,MZ,Nb,Nc,MA,MS]
  rw [e]
  exact G0 S c
 ·have e:zi p lim world S c i=xK lim S c i:=by unfold zi;simp only [hk,Int.reduceEq,MZ,Nb,Nc,MA,MS]
  rw [e]
  exact mQ lim S c i
 ·have e:zi p lim world S c i=xK lim S c i:=by unfold zi;simp only [hk,Int.reduceEq,MZ,Nb,Nc,MA,MS]
  rw [e]
  exact mQ lim S c i
 ·have e:zi p lim world S c i=(wF { uT S 1 (kd world S.used) with used:=S.used + 1 } 0 (vJ (kd world S.used)),true):=by unfold zi;simp only [hk,Int.reduceEq,MZ,Nb,Nc,MA,MS]
  rw [e]
  exact ⟨rfl,rfl⟩
 ·have e:zi p lim world S c i=(if (zv S 0).k=1 then (uT S 2 (zv S 0).n,true) else (S,false)):=by unfold zi;simp only [hk,Int.reduceEq,MZ,Nb,Nc,MA,MS]
  rw [e]
  split <;> exact ⟨rfl,rfl⟩
end
end Go.As
