/- A part of the proof. -/
import Derived.Test.YtcecapkbglnejaaGreatDoorTN
set_option linter.unusedVariables false
set_option linter.unusedSimpArgs false
set_option maxRecDepth 100000
namespace Go.As
open Go.Ai Go.Proofs Go.Mem Go.Rm
open Go.Rtl (zE zW Old yS xq inc vY wH)
section
variable {lo:yV} {h:za} {L:List HP} {ty:TypeId} {n:Nat} {sv:Value} {rows:List (List Value)}
theorem i3 (s:Sat lo h (Za ty n sv rows :: L)) (hn:∀ r,r ∈ rows->r.length=n) {i:Nat} {row:List Value} (hr:rows[i]? = some row) :
  ∃ q c cs,sv = .slice (some ⟨q,0,none⟩) rows.length c/\h.get q=some (.cells cs ty)/\h.ro<=q/\q < h.next/\i * n + n<=cs.length/\(cs.drop (i * n)).take n=row/\(∀ k,k < n->cs[i * n + k]? = row[k]?) /\ ∀ j vs,j + vs.length<=n->Sat lo (h.set q (some (.cells (zf cs (i * n + j) vs) ty))) (Za ty n sv (rows.set i (zf row j vs)) :: L):=by
 have hi:i < rows.length:=by
  rcases SC i rows.length with a | a
  ·exact a
  ·rw [Sr a] at hr;cases hr
 have hrl:=hn row (S7 hr)
 have R:=j1 s hn
 obtain ⟨b',o,c',t',⟨off,cp,e1,rfl⟩,_,hb,hg,hl,ht,hk⟩:=R.spot hr hrl
 obtain ⟨q,c,cs,e2,gq,wq,lq,s2⟩:=Lt s hn hi
 rw [e1] at e2
 simp only [TZ,Se,aal,Tk,aab] at e2
 obtain ⟨⟨rfl,rfl⟩,rfl⟩:=e2
 rw [gq] at hg
 simp only [Se,vi.cells.injEq] at hg
 obtain ⟨rfl,rfl⟩:=hg
 rw [Sy] at ht hl
 simp only [Sy] at hk
 refine ⟨b',cp,cs,e1,gq,wq,hb,lq,ht,hk,fun j vs hj => ?_⟩
 have e:zf cs (i * n + j) vs=zf cs (i * n) (zf row j vs):=by
  apply TK
  intro x
  rw [XN (zf row j vs) cs (i * n) x (by rw [jk,hrl];exact lq),jk,hrl,XN vs cs _ x (by omega)]
  by_cases hx:i * n<=x/\x < i * n + n
  ·rw [Sn hx,XN vs row j _ (by omega)]
   by_cases hxj:i * n + j<=x/\x < i * n + j + vs.length
   ·rw [Sn hxj,Sn (by omega)];congr 1;omega
   ·rw [Sl hxj,Sl (by omega),<- hk (x - i * n) (by omega)];congr 1;omega
  ·rw [Sl hx,Sl (by omega)]
 rw [e]
 exact s2 _ (by rw [jk];exact hrl)
theorem HG {q i j:Nat} {cs row vs:List Value} {K:za->Prop} (gq:h.get q=some (.cells cs ty)) (wq:h.ro<=q) (lq:i * n + n<=cs.length) (s3:∀ j vs,j + vs.length<=n->Sat lo (h.set q (some (.cells (zf cs (i * n + j) vs) ty))) (Za ty n sv (rows.set i (zf row j vs)) :: L)) (hj:j + vs.length<=n) (hc:vs.all wZ=true)
  (k:∀ h',Sat lo h' (Za ty n sv (rows.set i (zf row j vs)) :: L)->K h'):opt (vf h q (i * n + j) vs) K:=by
 rw [H2 gq,Sn ⟨by omega,wq,hc⟩]
 exact k _ (s3 j vs hj)
end
def uD (c:Fr):List Value:=[.int .i64 (c.f:Nat),.int .i64 c.pt,.int .i64 c.Xf,.int .i64 c.size,.int .i64 c.iT.k,.int .i64 c.iT.n,.int .i64 c.iT.b]
def xI (p:Pg) (lv:Value) (mb wb:Nat) (S:St) (ev lk gl cl:Value) (lim:Int):vi := .cells (vx p lv mb wb S ev lk gl cl lim) 108
theorem mx (a b:Int) (r:TypeId) (h:za):zn Tryz.prog .max [3,3] r [.int .i64 a,.int .i64 b] h=some (.int .i64 (max a b),h):=by
 have e0:z9 Tryz.prog (Builtin.max_ #[3,3] r #[.int .i64 a,.int .i64 b])=some (.int .i64 (if b > a then b else a)):=rfl
 have e:(if b > a then b else a)=max a b:=by split <;> omega
 rw [e] at e0
 show (cond (List.all [Value.int .i64 a,.int .i64 b] flat) ((fl (z9 Tryz.prog (Builtin.max_ #[3,3] r #[.int .i64 a,.int .i64 b]))).map fun v=>(v,h)) none)=_
 rw [e0];rfl
section
variable {lo:yV} {h:za} {b mb wb:Nat} {p:Pg} {S:St} {lv ev lk gl cl:Value} {lim:Int}
theorem pE (s:Sat lo h [pt b (xI p lv mb wb S ev lk gl cl lim),Za 80 3 lk (S.lk.map qw)]) (hb:(S.lk.length + 1) * 24<=2 ^ 47) (k_ a c:Int) :
  DC Tryz.prog 92 [xK b,.int .i64 k_,.int .i64 a,.int .i64 c] h (fun _ h' => ∃ lk',Sat lo h' [pt b (xI p lv mb wb (uU S k_ a c) ev lk' gl cl lim),Za 80 3 lk' ((uU S k_ a c).lk.map qw)]):=by
 apply D3
 unfold Ba xK
 have gm:=s.get
 unfold xI at gm
 have n0:=qT (s.p 1)
 have s1:=s.push (.cells [.int .i64 k_,.int .i64 a,.int .i64 c] 80)
 obtain ⟨b',c',h2,a1,s2⟩:=aN (s1.p 2) (k8 (f:=qw) (fun _=>rfl) _) [.int .i64 k_,.int .i64 a,.int .i64 c] rfl (by decide) 24 (by rw [SX];exact hb)
 rw [SX] at a1 s2
 have ha:∀ r,zn Tryz.prog .append [31,31] r [lk,.slice (some ⟨h.next,0,none⟩) 1 3] (h.push (.cells [.int .i64 k_,.int .i64 a,.int .i64 c] 80))=some (.slice (some ⟨b',0,none⟩) (S.lk.length + 1) c',h2):=fun r=>by
  rw [Of r _ _ 1 [.int .i64 k_,.int .i64 a,.int .i64 c] _ rfl (by simp only [uJ,yd];rfl) rfl rfl]
  exact a1
 simp -implicitDefEqProofs only [EE,Nat.reduceAdd,zw,nh,Oj,sQ,Ew,jZ,Q5,gm,Pp,n0,ha]
 refine wx (s2.p 2) (by simp [vP]) rfl fun h3 s3 => ?_
 rw [Ps] at s3
 simp -implicitDefEqProofs only [UF]
 refine ⟨.slice (some ⟨b',0,none⟩) (S.lk.length + 1) c',?_⟩
 have e1:((uU S k_ a c).lk.map qw)=S.lk.map qw ++ [[.int .i64 k_,.int .i64 a,.int .i64 c]]:=by simp [uU,qw]
 rw [e1]
 exact s3.k [0,1]
theorem C8 (s:Sat lo h [pt b (xI p lv mb wb S ev lk gl cl lim),Za 85 2 ev (S.ev.map jF)]) (hb:(S.ev.length + 1) * 16<=2 ^ 47) (k_ a:Int) :
  DC Tryz.prog 96 [xK b,.int .i64 k_,.int .i64 a] h (fun _ h' => ∃ ev',Sat lo h' [pt b (xI p lv mb wb (jj S k_ a) ev' lk gl cl lim),Za 85 2 ev' ((jj S k_ a).ev.map jF)]):=by
 apply AY
 unfold oq xK
 have gm:=s.get
 unfold xI at gm
 have n0:=qT (s.p 1)
 have s1:=s.push (.cells [.int .i64 k_,.int .i64 a] 85)
 obtain ⟨b',c',h2,a1,s2⟩:=aN (s1.p 2) (k8 (f:=jF) (fun _=>rfl) _) [.int .i64 k_,.int .i64 a] rfl (by decide) 16 (by rw [SX];exact hb)
 rw [SX] at a1 s2
 have ha:∀ r,zn Tryz.prog .append [30,30] r [ev,.slice (some ⟨h.next,0,none⟩) 1 3] (h.push (.cells [.int .i64 k_,.int .i64 a] 85))=some (.slice (some ⟨b',0,none⟩) (S.ev.length + 1) c',h2):=fun r=>by
  rw [Oe r _ _ 1 [.int .i64 k_,.int .i64 a] _ rfl (by simp only [uJ,yd];rfl) rfl rfl]
  exact a1
 simp -implicitDefEqProofs only [EE,Nat.reduceAdd,zw,CW,Oi,Er,Ev,jZ,eL,gm,RC,n0,ha]
 refine wx (s2.p 2) (by simp [vP]) rfl fun h3 s3 => ?_
 rw [RJ] at s3
 simp -implicitDefEqProofs only [UF]
 refine ⟨.slice (some ⟨b',0,none⟩) (S.ev.length + 1) c',?_⟩
 have e1:((jj S k_ a).ev.map jF)=S.ev.map jF ++ [[.int .i64 k_,.int .i64 a]]:=by simp [jj,jF]
 rw [e1]
 exact s3.k [0,1]
structure N3 (lim:Int) (S:St):Prop where
 l0:0<=lim
 l1:lim < 4294967296
 s0 : -4611686018427387904<=S.stack
 s1:S.stack < 4294967296
theorem Hf {L:List HP} (s:Sat lo h (pt b (xI p lv mb wb S ev lk gl cl lim) :: L)) (hs:N3 lim S) {n:Int} (n0:0<=n) (n1:n < 4294967296) :
  DC Tryz.prog 84 [xK b,.int .i64 n] h (fun v h'=>v = .bool (yM lim S n).2/\Sat lo h' (pt b (xI p lv mb wb (yM lim S n).1 ev lk gl cl lim) :: L)):=by
 apply D0
 unfold A7 xK
 have gm:=s.get
 unfold xI at gm
 obtain ⟨l0,l1,q0,q1⟩:=hs
 have w1:IntKind.wrap .i64 (lim - S.stack)=lim - S.stack:=Go.Mem.Yb (by omega) (by omega)
 by_cases hc:n > lim - S.stack
 ·simp -implicitDefEqProofs only [EE,zw,zi,Wx,VI,nE,jZ,YL,rX,gm,t9,Mc,w1,hc]
  refine wx s (by simp [vP]) rfl fun h3 s3 => ?_
  rw [NA] at s3
  simp -implicitDefEqProofs only [EE]
  have e:yM lim S n=({ S with kind:=4 },false):=by unfold yM;rw [Sn hc]
  rw [e]
  exact ⟨rfl,s3⟩
 ·have w2:IntKind.wrap .i64 (S.stack + n)=S.stack + n:=Go.Mem.Yb (by omega) (by omega)
  simp -implicitDefEqProofs only [EE,zw,zi,Wx,VI,nE,rY,gm,t9,Mc,w1,w2,hc]
  refine wx s (by simp [vP]) rfl fun h3 s3 => ?_
  rw [HR] at s3
  have g3:=s3.get
  simp -implicitDefEqProofs only [EE,zw,zi,Wx,VI,nF,g3,t9,Md,mx]
  refine wx s3 (by simp [vP]) rfl fun h4 s4 => ?_
  rw [Px] at s4
  simp -implicitDefEqProofs only [EE]
  have e:yM lim S n=({ S with stack:=S.stack + n,wD:=max S.wD (S.stack + n) },true):=by unfold yM;rw [Sl hc]
  rw [e]
  exact ⟨rfl,s4⟩
end
theorem hE (l:List Fr):∀ r,r ∈ l.map uD->r.length=7:=k8 (f:=uD) (fun _=>rfl) l
section
variable {lo:yV} {h:za} {L:List HP} {b mb wb:Nat} {p:Pg} {S:St} {lv ev lk gl cl:Value} {lim:Int}
theorem C6 (s:Sat lo h [pt b (xI p lv mb wb S ev lk gl cl lim),Za 134 7 cl (S.calls.map uD)]) (hs:N3 lim S) (hc:(S.calls.length + 1) * 56<=2 ^ 47) (f:Nat) :
  DC Tryz.prog 65 [xK b,.int .i64 (f:Nat)] h (fun _ h' => ∃ cl',Sat lo h' [pt b (xI p lv mb wb (xP lim S f) ev lk gl cl' lim),Za 134 7 cl' ((xP lim S f).calls.map uD)]):=by
 apply AW
 unfold om xK
 refine z7 (by kernel_rfl) rfl (Hf s hs (n:=8) (by decide) (by decide)) ?_
 rintro v h2 ⟨rfl,s2⟩
 have en:(yM lim S 8).1.calls=S.calls:=by unfold yM;split <;> rfl
 cases hg:(yM lim S 8).2 with
 | false=>
   simp -implicitDefEqProofs only [EE,UF]
   have e:xP lim S f=(yM lim S 8).1:=by unfold xP;rw [hg];rfl
   rw [e,en]
   exact ⟨cl,s2⟩
 | true=>
   have e:xP lim S f = { (yM lim S 8).1 with calls:=S.calls ++ [⟨f,0,0,0,v0⟩] }:=by unfold xP;rw [hg,Sn rfl,en]
   have gm:=s2.get
   unfold xI at gm
   have n0:=qT (s2.p 1)
   have s3:=s2.push (.cells (uD ⟨f,0,0,0,v0⟩) 134)
   obtain ⟨b',c',h4,a1,s4⟩:=aN (s3.p 2) (hE _) (uD ⟨f,0,0,0,v0⟩) rfl (by decide) 56 (by rw [SX];exact hc)
   rw [SX] at a1 s4
   have ha:∀ r,zn Tryz.prog .append [106,106] r [cl,.slice (some ⟨h2.next,0,none⟩) 1 3] (h2.push (.cells [.int .i64 (f:Nat),.int .i64 0,.int .i64 0,.int .i64 0,.int .i64 0,.int .i64 0,.int .i64 0] 134))=some (.slice (some ⟨b',0,none⟩) (S.calls.length + 1) c',h4):=fun r=>by
    rw [Mx r _ _ 1 (uD ⟨f,0,0,0,v0⟩) _ rfl (by simp only [uJ,yd];rfl) rfl rfl]
    exact a1
   simp -implicitDefEqProofs only [EE,zw,oQ,GA,GG,BF,JZ,l9,gm,Dl,n0,ha]
   refine wx (s4.p 2) (by simp [vP]) rfl fun h5 s5 => ?_
   rw [Mg] at s5
   simp -implicitDefEqProofs only [UF]
   refine ⟨.slice (some ⟨b',0,none⟩) (S.calls.length + 1) c',?_⟩
   have e1:(xP lim S f).calls.map uD=S.calls.map uD ++ [uD ⟨f,0,0,0,v0⟩]:=by rw [e];simp
   rw [e1,e]
   exact s5.k [0,1]
theorem pQ {to:Int} (h0:0<=to) (h1:to < 16) (hl:S.YV.length=16) (o:Option V):zf (vx p lv mb wb S ev lk gl cl lim) (14 + to.toNat * 3) [.int .i64 (o.getD v0).k,.int .i64 (o.getD v0).n,.int .i64 (o.getD v0).b]=vx p lv mb wb (vF S to o).1 ev lk gl cl lim:=iY h0 h1 hl (o.getD v0)
theorem dG (s:Sat lo h (pt b (xI p lv mb wb S ev lk gl cl lim) :: L)) (hl:S.YV.length=16) {to:Int} (h0:0<=to) (h1:to < 16) (op:Int) (a c:V) :
  DC Tryz.prog 86 [xK b,.int .i64 op,.int .i64 to,vv a,vv c] h (fun v h'=>v = .bool (vF S to (yu op a c)).2/\Sat lo h' (pt b (xI p lv mb wb (vF S to (yu op a c)).1 ev lk gl cl lim) :: L)):=by
 apply FX
 unfold FV xK
 simp -implicitDefEqProofs only [EE,Value.cells]
 refine vy s fun b1 h2 s2 => ?_
 simp -implicitDefEqProofs only [EE,ye,zq]
 refine vy s2 fun b2 h3 s3 => ?_
 have g1:=(s3.p 1).get
 have g2:=s3.get
 simp -implicitDefEqProofs only [EE,Sf,Nat.reduceAdd,ye,zq,g1,g2]
 refine zh (by kernel_rfl) rfl (GL op a c _) ?_
 rw [xp]
 simp -implicitDefEqProofs only [EE,Value.cells,vG,CO]
 refine vy s3 fun b3 h4 s4 => ?_
 simp -implicitDefEqProofs only [EE,Nat.reduceAdd,zL]
 refine wx s4 (by simp) rfl fun h5 s5 => ?_
 have g3:=s5.get
 have gm:=(s5.p 3).get
 unfold xI at gm
 simp -implicitDefEqProofs only [EE,zf,Sf,Nat.reduceAdd,ye,zq,zL,xV,qD,g3,h0,h1]
 refine wx (s5.p 3) (by rw [vP];simp;omega) rfl fun h6 s6 => ?_
 rw [pQ h0 h1 hl] at s6
 simp -implicitDefEqProofs only [EE]
 exact ⟨rfl,((((s6.p 1).drop.p 1).drop).p 1).drop⟩
theorem PH (s:Sat lo h (pt b (xI p lv mb wb S ev lk gl cl lim) :: L)) (hl:S.YV.length=16) {to:Int} (h0:0<=to) (h1:to < 16) (op:Int) (a:V) :
  DC Tryz.prog 88 [xK b,.int .i64 op,.int .i64 to,vv a] h (fun v h'=>v = .bool (vF S to (eh op a)).2/\Sat lo h' (pt b (xI p lv mb wb (vF S to (eh op a)).1 ev lk gl cl lim) :: L)):=by
 apply Io
 unfold Mq xK
 simp -implicitDefEqProofs only [EE,Value.cells]
 refine vy s fun b1 h2 s2 => ?_
 have g1:=s2.get
 simp -implicitDefEqProofs only [EE,Sf,Nat.reduceAdd,ye,zq,g1]
 refine zh (by kernel_rfl) rfl (RL op a _) ?_
 rw [xp]
 simp -implicitDefEqProofs only [EE,Value.cells,vG,Ga]
 refine vy s2 fun b3 h4 s4 => ?_
 simp -implicitDefEqProofs only [EE,Nat.reduceAdd,zL]
 refine wx s4 (by simp) rfl fun h5 s5 => ?_
 have g3:=s5.get
 have gm:=(s5.p 2).get
 unfold xI at gm
 simp -implicitDefEqProofs only [EE,zf,Sf,Nat.reduceAdd,ye,zq,zL,xV,qD,g3,h0,h1]
 refine wx (s5.p 2) (by rw [vP];simp;omega) rfl fun h6 s6 => ?_
 rw [pQ h0 h1 hl] at s6
 simp -implicitDefEqProofs only [EE]
 exact ⟨rfl,((s6.p 1).drop.p 1).drop⟩
end
theorem HS (a:V) (h:za):vC Tryz.prog 89 [vv a] h (vv (VR a)):=by
 apply jd rfl
 apply D7
 unfold Bi
 have s0:Sat ⟨fun _=>none,h.lock.ro⟩ h.lock []:=⟨rfl,Sp _,fun b x e=>by cases e⟩
 simp -implicitDefEqProofs only [EE,Value.cells,vG]
 refine vy s0 fun b1 h2 s2 => ?_
 simp -implicitDefEqProofs only [EE,zw,yQ,wi]
 refine vy s2 fun b2 h3 s3 => ?_
 have g1:=(s3.p 1).get
 simp -implicitDefEqProofs only [EE,Int.reduceLE,Int.reduceToNat,g1]
 rw [show min 63 IntKind.i64.bits=63 from rfl]
 refine zh (by kernel_rfl) rfl (ZL _ h3) ?_
 simp -implicitDefEqProofs only [EE,Nat.reduceAdd,zL]
 refine wx s3 (by simp) rfl fun h4 s4 => ?_
 have g4:=s4.get
 simp -implicitDefEqProofs only [EE,zf,Sf,Nat.reduceAdd,ye,zq,g4]
 rfl
theorem NO (n:Int):YU (Go.Rm.Yb n):=by
 unfold Go.Rm.Yb YU
 simp only [IntKind.wrap,IntKind.bits,IntKind.signed]
 constructor <;> simp <;> omega
theorem Ip {a q:V} {k:Int} (ha:vb a) (h:yu 11 a (qx k)=some q) (h2:q.k=2):q.ok:=by
 have hb:=Qy ha (UO k) h
 have hi:isInt (qx k)=true:=rfl
 have hp:uE (qx k)=false:=rfl
 have hn:YU q.n:=by
  unfold yu at h
  rw [hi,hp] at h
  cases h1:isInt a with
  | true=>
    rw [h1] at h
    have h:some (qx (Go.Rm.Yb (a.n + (qx k).n)))=some q:=h
    cases h;cases h2
  | false=>
    rw [h1] at h
    cases h3:uE a with
    | true=>
      rw [h3] at h
      have h:some (np a.b (Go.Rm.Yb (a.n + (qx k).n)))=some q:=h
      cases h
      unfold np
      split
      ·exact Vq
      ·exact NO _
    | false=>
      rw [h3] at h
      have h:(none:Option V)=some q:=h
      cases h
 exact ⟨by rw [h2];exact ⟨by decide,by decide⟩,hn,hb⟩
section
variable {lo:yV} {h:za} {L:List HP} {b mb wb:Nat} {p:Pg} {S:St} {lv ev lk gl cl:Value} {lim:Int} {i:uF}
theorem sy (s:Sat lo h [pt b (xI p lv mb wb S ev lk gl cl lim),Za 80 3 lk (S.lk.map qw),YQ mb S.mem]) (hL:(S.lk.length + 1) * 24<=2 ^ 47) (hl:S.YV.length=16) (hv:∀ r,vb (zB S r)) (hs:small S.mem) (hsub:YU i.sub) (m0:0<=i.m) (m1:i.m < 16) (r0:0<=i.r) (r1:i.r < 16) :
  DC Tryz.prog 85 [xK b,i.val] h (fun v h'=>v = .bool (yO S i).2 /\ ∃ lk',Sat lo h' [pt b (xI p lv mb wb (yO S i).1 ev lk' gl cl lim),Za 80 3 lk' ((yO S i).1.lk.map qw),YQ mb (yO S i).1.mem]):=by
 apply YA;intro wf
 apply rN
 unfold ft xK
 simp -implicitDefEqProofs only [EE,Value.cells]
 refine Di s wf fun b1 h2 wf2 s2 => ?_
 have g1:=s2.get
 have gm:=(s2.p 1).get
 unfold xI at gm
 simp -implicitDefEqProofs only [EE,Sf,ye,zw,yQ,zi,zq,xV,xJ,zQ,qD,g1,gm,m0,m1,jX m1,jW m0 m1]
 refine qR (by kernel_rfl) rfl (ZL i.k _) ?_
 refine qR (by kernel_rfl) rfl (GL 11 (zB S i.m) (qx i.k) _) ?_
 rw [xp]
 simp -implicitDefEqProofs only [EE,Value.cells,vG,fB]
 cases hb:yu 11 (zB S i.m) (qx i.k) with
 | none=>
   have e:yO S i=(S,false):=by unfold yO;rw [hb]
   rw [e]
   simp -implicitDefEqProofs only [Option.getD_none,v0]
   refine vy s2 fun b3 h3 s3 => ?_
   simp -implicitDefEqProofs only [EE,Nat.reduceAdd,zL]
   refine wx s3 (by simp) rfl fun h4 s4 => ?_
   simp -implicitDefEqProofs only [EE,V2,Option.isSome_none]
   exact ⟨lk,s4.k [2,3,4]⟩
 | some q=>
   simp -implicitDefEqProofs only [T6]
   refine Di s2 wf2 fun b3 h3 wf3 s3 => ?_
   simp -implicitDefEqProofs only [EE,Nat.reduceAdd,zL]
   refine wx s3 (by simp) rfl fun h4 s4 => ?_
   have g4:=s4.get
   by_cases hk:q.k=2
   ·have hq:=Ip (hv i.m) hb hk
    simp -implicitDefEqProofs only [EE,zf,Nat.reduceAdd,zw,yQ,zi,wm,wi,uB,fA,V2,Option.isSome_some,g4,hk]
    obtain ⟨lo1,l1,s5,fr⟩:=(s4.f [2,3]).call (L2:=[pt b (xI p lv mb wb S ev lk gl cl lim),Za 80 3 lk (S.lk.map qw)])
    refine z7 (by kernel_rfl) rfl ((pE s5 hL 2 q.b q.n).OY fun v h' x w=>And.intro x w) ?_
    rintro v h5 ⟨⟨lk',s6⟩,wf5⟩
    have s7:=fr _ _ s6
    have g3:=(s7.p 2).get
    have g1:=(s7.p 3).get
    have gm:=s7.get
    unfold xI at gm
    by_cases h4:i.op=4
    ·have e1:WR S.mem i.sub q (zB S i.r)=none->yO S i=(uU S 2 q.b q.n,false):=fun z=>by unfold yO;rw [hb];simp only [Sn hk,Sn h4,z]
     have e2:∀ M,WR S.mem i.sub q (zB S i.r)=some M->yO S i=({ uU S 2 q.b q.n with mem:=M },true):=fun M z=>by unfold yO;rw [hb];simp only [Sn hk,Sn h4,z]
     simp -implicitDefEqProofs only [EE,ye,zw,cC,zi,zq,VJ,zg,zD,fu,KQ,g1,h4]
     simp -implicitDefEqProofs only [EE,zf,Sf,Nat.reduceAdd,ye,zw,zi,zq,xV,wG,qD,g1,g3,gm,E7,r0,r1,jX r1,jW r0 r1]
     obtain ⟨lo2,l2,s8,fr2⟩:=(s7.f [4]).call (L2:=[YQ mb S.mem])
     refine qu (by kernel_rfl) rfl (Lx (v:=zB S i.r) s8 hs hsub hq) ?_
     rintro v h6 ⟨rfl,s9⟩
     have s10:=fr2 _ _ s9
     simp -implicitDefEqProofs only [EE]
     cases hst:WR S.mem i.sub q (zB S i.r) with
     | none=>rw [hst] at s10;rw [e1 hst];exact ⟨rfl,lk',s10.k [1,2,0]⟩
     | some M=>rw [hst] at s10;rw [e2 M hst];exact ⟨rfl,lk',s10.k [1,2,0]⟩
    ·have e0:yO S i=vF (uU S 2 q.b q.n) i.r (Qo S.mem i.sub q):=by unfold yO;rw [hb];simp only [Sn hk,Sl h4]
     simp -implicitDefEqProofs only [EE,ye,zw,cC,zi,zq,VJ,zg,wG,zD,fy,KQ,g1,h4]
     simp -implicitDefEqProofs only [EE,zf,Sf,Nat.reduceAdd,g3,gm,E7]
     refine oZ (by kernel_rfl) rfl wf5 (s7.f [4]) (Nd (s7.f [4]) hs hsub hq) ?_
     rintro v h6 ⟨rfl,s8⟩ back _
     have s9:=back _ s8
     clear back
     rw [List.nil_append] at s9
     have gm:=(s9.p 1).get
     unfold xI at gm
     rw [xp]
     simp -implicitDefEqProofs only [EE,Sf,Nat.reduceAdd,zL,xV,qD,fw,r0,r1]
     refine wx (s9.p 1) (by rw [vP];simp;omega) rfl fun h7 s10 => ?_
     rw [pQ r0 r1 (S:=uU S 2 q.b q.n) hl] at s10
     simp -implicitDefEqProofs only [EE]
     rw [e0]
     exact ⟨rfl,lk',s10.k [0,2,1]⟩
   ·have e:yO S i=(S,false):=by unfold yO;rw [hb];simp only [Sl hk]
    rw [e]
    simp -implicitDefEqProofs only [EE,zf,Nat.reduceAdd,zw,zi,wm,V2,Option.isSome_some,g4,hk]
    exact ⟨lk,s4.k [2,3,4]⟩
end
theorem GQ:Nat.beq (Tryz.prog.cellsOf 134) 7=true:=by kernel_rfl
theorem IC {c:Nat} (hc:c ≠ 0):K8 c 0=c:=by
 match c with
 | 0=>exact absurd rfl hc
 | 1=>rfl
 | k + 2=>rfl
section
variable {lo:yV} {h:za} {L:List HP} {b mb wb:Nat} {p:Pg} {S:St} {lv ev lk gl cl:Value} {lim:Int} {i:uF} {mv:V}
theorem pP:((vx p lv mb wb S ev lk gl cl lim).drop 14).take 3 = [.int .i64 (zB S 0).k,.int .i64 (zB S 0).n,.int .i64 (zB S 0).b]:=jW (r:=0) (by decide) (by decide)
theorem Lm:((vx p lv mb wb S ev lk gl cl lim).drop 20).take 3 = [.int .i64 (zB S 2).k,.int .i64 (zB S 2).n,.int .i64 (zB S 2).b]:=jW (r:=2) (by decide) (by decide)
theorem Ln:((vx p lv mb wb S ev lk gl cl lim).drop 26).take 3 = [.int .i64 (zB S 4).k,.int .i64 (zB S 4).n,.int .i64 (zB S 4).b]:=jW (r:=4) (by decide) (by decide)
theorem Ll:((vx p lv mb wb S ev lk gl cl lim).drop 17).take 3 = [.int .i64 (zB S 1).k,.int .i64 (zB S 1).n,.int .i64 (zB S 1).b]:=jW (r:=1) (by decide) (by decide)
theorem GW (s:Sat lo h [pt b (xI p lv mb wb S ev lk gl cl lim),Za 80 3 lk (S.lk.map qw)]) (hL:(S.lk.length + 1) * 24<=2 ^ 47) (hl:S.YV.length=16) :
  DC Tryz.prog 90 [xK b,vv mv] h (fun v h'=>v = .bool (ZI S mv).2 /\ ∃ lk',Sat lo h' [pt b (xI p lv mb wb (ZI S mv).1 ev lk' gl cl lim),Za 80 3 lk' ((ZI S mv).1.lk.map qw)]):=by
 apply rP
 unfold fP xK
 simp -implicitDefEqProofs only [EE,Value.cells,Sf,Nat.reduceAdd,Nat.reduceMul,Int.reduceLT,Int.reduceLE,Int.reduceToNat,ye,zq,vG,xV,qD]
 refine vy s fun b1 h2 s2 => ?_
 have gm:=(s2.p 1).get
 unfold xI at gm
 simp -implicitDefEqProofs only [EE,Sf,Nat.reduceLeDiff,gm,aK,pP]
 refine vy s2 fun b2 h3 s3 => ?_
 simp -implicitDefEqProofs only [EE,Nat.reduceAdd,zL]
 refine wx s3 (by simp) rfl fun h4 s4 => ?_
 have g2:=s4.get
 have g1:=(s4.p 1).get
 by_cases k1:(zB S 0).k=1
 ·by_cases k2:mv.k=1
  ·simp -implicitDefEqProofs only [EE,zf,Nat.reduceAdd,zw,yQ,zi,wm,wi,fS,V7,g1,g2,k1,k2]
   obtain ⟨lo1,l1,s5,fr⟩:=(s4.f [2,3]).call (L2:=[pt b (xI p lv mb wb S ev lk gl cl lim),Za 80 3 lk (S.lk.map qw)])
   refine z7 (by kernel_rfl) rfl (pE s5 hL 3 (zB S 0).n mv.n) ?_
   rintro v h5 ⟨lk',s6⟩
   have s7:=fr _ _ s6
   have gm:=s7.get
   unfold xI at gm
   have g2:=(s7.p 2).get
   have g1:=(s7.p 3).get
   have e2:zB (uU S 3 (zB S 0).n mv.n) 2=zB S 2:=rfl
   simp -implicitDefEqProofs only [EE,zf,Sf,Nat.reduceAdd,Nat.reduceLeDiff,Nat.reduceMul,Int.reduceLT,Int.reduceLE,Int.reduceToNat,ye,zq,xV,qD,fR,gm,g2,aK,Lm,e2,k1]
   have sq:=HS (zB S 0) h5
   unfold vv at sq
   rw [k1] at sq
   refine qR (by kernel_rfl) rfl sq ?_
   have hv:=PV (zB S 2) (VR (zB S 0))
   by_cases c2:zB S 2=VR (zB S 0)
   ·have hv:_=true:=hv.trans (decide_eq_true c2)
    simp -implicitDefEqProofs only [EE,zf,Sf,Nat.reduceAdd,ye,zq,Hv,fQ,K1,hv,g1,g2,k1,k2]
    have B1:=dG (to:=0) s7 hl (by decide) (by decide) 14 (zB S 0) mv
    unfold vv at B1
    rw [k1,k2] at B1
    refine z7 (by kernel_rfl) rfl B1 ?_
    rintro v h6 ⟨rfl,s8⟩
    have g2:=(s8.p 2).get
    have g1:=(s8.p 3).get
    cases hr:(vF (uU S 3 (zB S 0).n mv.n) 0 (yu 14 (zB S 0) mv)).2 with
    | false=>
      have e:ZI S mv=vF (uU S 3 (zB S 0).n mv.n) 0 (yu 14 (zB S 0) mv):=by unfold ZI;rw [Sn ⟨k1,k2⟩,Sn c2,Sl (by rw [hr];simp)]
      rw [e,hr]
      simp -implicitDefEqProofs only [EE,KZ,K0]
      exact ⟨lk',s8.k [0,1]⟩
    | true=>
      have e:ZI S mv=vF (vF (uU S 3 (zB S 0).n mv.n) 0 (yu 14 (zB S 0) mv)).1 2 (yu 15 (zB S 0) mv):=by unfold ZI;rw [Sn ⟨k1,k2⟩,Sn c2,Sn hr]
      rw [e]
      simp -implicitDefEqProofs only [EE,zf,Sf,Nat.reduceAdd,ye,zq,KZ,K0,g1,g2]
      have B2:=dG (to:=2) s8 (by show (List.set _ _ _).length=16;rw [TD];exact hl) (by decide) (by decide) 15 (zB S 0) mv
      unfold vv at B2
      rw [k1,k2] at B2
      refine z7 (by kernel_rfl) rfl B2 ?_
      rintro v h7 ⟨rfl,s9⟩
      simp -implicitDefEqProofs only [EE]
      exact ⟨lk',s9.k [0,1]⟩
   ·have hv:_=false:=hv.trans (decide_eq_false c2)
    have e:ZI S mv=(uU S 3 (zB S 0).n mv.n,false):=by unfold ZI;rw [Sn ⟨k1,k2⟩,Sl c2]
    rw [e]
    simp -implicitDefEqProofs only [EE,Hv,K1,hv]
    exact ⟨lk',s7.k [0,1]⟩
  ·have e:ZI S mv=(S,false):=by unfold ZI;rw [Sl (fun q=>k2 q.2)]
   rw [e]
   simp -implicitDefEqProofs only [EE,zf,Nat.reduceAdd,zw,zi,wm,V7,g1,g2,k1,k2]
   exact ⟨lk,s4.k [2,3]⟩
 ·have e:ZI S mv=(S,false):=by unfold ZI;rw [Sl (fun q=>k1 q.1)]
  rw [e]
  simp -implicitDefEqProofs only [EE,zf,Nat.reduceAdd,zw,zi,wm,V7,g2,k1]
  exact ⟨lk,s4.k [2,3]⟩
theorem Eh {b c k:Nat} {h:za} {cs:List Value} (hc:c ≠ 0) (hg:h.get b=some (.cells cs 134)):GC Tryz.prog 106 (.slice (some ⟨b,0,none⟩) (k + 1) c) none (some (.int .i64 (k:Nat))) h=some (.slice (some ⟨b,0,none⟩) k c):=by
 have h1:(0:Int)<=(k:Int)/\(k:Int)<=((k + 1:Nat):Int):=by omega
 rw [NG,Wr,Sn h1,SS,U7,SS,LF hg,GQ,SA,IC hc]
 simp
theorem Ls {ty:TypeId} {n q k c:Nat} {rows:List (List Value)} {row:List Value} (hn:∀ r,r ∈ rows ++ [row]->r.length=n) (hk:k=rows.length) (s:Sat lo h (Za ty n (.slice (some ⟨q,0,none⟩) (k + 1) c) (rows ++ [row]) :: L)):c ≠ 0/\(∃ cs,h.get q=some (.cells cs ty))/\Sat lo h (Za ty n (.slice (some ⟨q,0,none⟩) k c) rows :: L):=by
 rcases Xn s with ⟨e,_⟩ | ⟨b',c',cs,e,hc,hl,ht,s⟩
 ·cases e
 ·simp only [TZ,Se,aal,Tk] at e
  obtain ⟨rfl,_,rfl⟩:=e
  have hlen:(rows ++ [row]).length=rows.length + 1:=by simp
  have hr:row.length=n:=hn row (by simp)
  rw [hlen,Nat.succ_mul] at hl ht
  rw [hk]
  refine ⟨hc,⟨cs,s.get⟩,Co hc (by omega) ?_ s⟩
  have h2:=congrArg (List.take (rows.length * n)) ht
  rw [List.take_take,Nat.min_eq_left (by omega)] at h2
  rw [h2,List.flatten_append,List.take_append_of_le_length (by rw [wH fun r q=>hn r (by simp [q])];exact Sp _),List.take_of_length_le (by rw [wH fun r q=>hn r (by simp [q])];exact Sp _)]
theorem I6 {q cp:Nat} {c:Fr} {ini:List Fr} (s:Sat lo h (pt b (xI p lv mb wb S ev lk gl cl lim) :: Za 134 7 cl (S.calls.map uD) :: L)) (hcl:cl = .slice (some ⟨q,0,none⟩) (ini.length + 1) cp) (hc:S.calls=ini ++ [c]) (hn1:ini.length < 4611686018427387900) (hs:N3 lim S) :
  DC Tryz.prog 93 [xK b,.pointer (some ⟨q,ini.length * 7,none⟩)] h (fun v h'=>v = .bool (ZU S c).2 /\ ∃ cl',Sat lo h' (pt b (xI p lv mb wb (ZU S c).1 ev lk gl cl' lim) :: Za 134 7 cl' ((ZU S c).1.calls.map uD) :: L)):=by
 apply Bc
 unfold ov xK
 have hrow:(S.calls.map uD)[ini.length]? = some (uD c):=by rw [SI,hc];simp
 obtain ⟨q',c',cs',e1,gq,wq,ltq,lq,tq,kq,_⟩:=i3 (s.p 1) (hE _) hrow
 rw [hcl] at e1
 simp only [TZ,Se,aal,Tk] at e1
 obtain ⟨rfl,_,rfl⟩:=e1
 have k2:=kq 2 (by decide)
 have k2:cs'[ini.length * 7 + 2]? = some (.int .i64 c.Xf):=k2
 have hdl:S.calls.dropLast=ini:=by rw [hc,T0]
 by_cases hb:c.Xf=0
 ·have w1:IntKind.wrap .i64 (S.stack - 8)=S.stack - 8:=Go.Mem.Yb (by have:=hs.s0;omega) (by have:=hs.s1;omega)
  simp -implicitDefEqProofs only [EE,zw,zi,Iu,XM,WC,mI,gq,k2,hb]
  refine wx s (by simp [vP]) rfl fun h2 s2 => ?_
  rw [Dr] at s2
  have g2:=s2.get
  simp -implicitDefEqProofs only [EE,zw,zi,Wx,VI,g2,t9,w1]
  refine wx s2 (by simp [vP]) rfl fun h3 s3 => ?_
  rw [HR] at s3
  have g3:=s3.get
  have e3:S.calls.map uD=ini.map uD ++ [uD c]:=by rw [hc];simp
  rw [hcl,e3] at s3
  obtain ⟨hc0,⟨cs,gq3⟩,s4⟩:=Ls (by rw [<- e3];exact hE _) (by simp) (s3.p 1)
  have w2:IntKind.wrap .i64 (((ini.length + 1:Nat):Int) - 1)=(ini.length:Nat):=by rw [show (((ini.length + 1:Nat):Int) - 1)=(ini.length:Nat) by omega];exact Go.Mem.Yb (by omega) (by omega)
  have sl:=Eh (k:=ini.length) hc0 gq3
  simp -implicitDefEqProofs only [EE,SA,zw,oQ,GA,JZ,pF,g3,Dl,hcl,w2,sl]
  refine wx (s4.p 1) (by simp [vP]) rfl fun h5 s5 => ?_
  rw [Mg] at s5
  have g5:=s5.get
  simp -implicitDefEqProofs only [EE,zw,oQ,JZ,pF,g5,Dl]
  by_cases hi:(ini.length:Int) > 0
  ·have e:ZU S c=({ S with flags:=false,stack:=S.stack - 8,calls:=ini },true):=by
    unfold ZU
    rw [Sl (fun q=>q hb),hdl,Sn (by intro q;rw [q] at hi;simp at hi)]
   simp -implicitDefEqProofs only [EE,hi]
   rw [e]
   exact ⟨rfl,_,s5⟩
  ·have hi0:ini = []:=Ty (by omega)
   simp -implicitDefEqProofs only [EE,Value.cells,Sf,Nat.reduceAdd,Nat.reduceMul,Int.reduceLT,Int.reduceLE,Int.reduceToNat,ye,zq,vG,xV,qD,mH,hi]
   simp -implicitDefEqProofs only [EE,Sf,Nat.reduceLeDiff,g5,aK,pP]
   refine vy s5 fun b6 h6 s6 => ?_
   simp -implicitDefEqProofs only [EE,Nat.reduceAdd,zL]
   refine wx s6 (by simp) rfl fun h7 s7 => ?_
   have g7:=s7.get
   by_cases hk:(zB S 0).k=1
   ·have e:ZU S c=({ S with flags:=false,stack:=S.stack - 8,calls:=[],kind:=1,exit:=(zB S 0).n },true):=by
     unfold ZU
     rw [Sl (fun q=>q hb),hdl,Sl (by rw [hi0];simp),Sn hk]
    have hne:b6 ≠ b:=s7.ne
    have hne2:b ≠ b6:=fun q=>hne q.symm
    have ek:∀ X,zB ({ S with flags:=false,stack:=S.stack - 8 }:St) X=zB S X:=fun _=>rfl
    simp -implicitDefEqProofs only [EE,zf,Nat.reduceAdd,Nat.reduceLeDiff,ne_eq,zw,yQ,zi,Wx,jZ,YL,wm,wi,mG,g7,ek,hk,sK,hne2,ne_eq,true_or]
    refine wx (s7.p 1) (by simp [vP]) rfl fun h8 s8 => ?_
    rw [NA] at s8
    have g8:=s8.get
    simp -implicitDefEqProofs only [EE,Nat.reduceAdd,P0,jZ,ph]
    refine wx s8 (by simp [vP]) rfl fun h9 s9 => ?_
    rw [RI] at s9
    simp -implicitDefEqProofs only [EE]
    rw [e]
    rw [hi0] at s9
    exact ⟨rfl,_,(s9.p 1).drop⟩
   ·have e:ZU S c=({ S with flags:=false,stack:=S.stack - 8,calls:=[] },false):=by
     unfold ZU
     rw [Sl (fun q=>q hb),hdl,Sl (by rw [hi0];simp),Sl hk]
    have ek:∀ X,zB ({ S with flags:=false,stack:=S.stack - 8 }:St) X=zB S X:=fun _=>rfl
    simp -implicitDefEqProofs only [EE,zf,Nat.reduceAdd,zw,zi,wm,g7,ek,hk]
    rw [e]
    rw [hi0] at s7
    exact ⟨rfl,_,s7.drop⟩
 ·have e:ZU S c=(S,false):=by unfold ZU;rw [Sn hb]
  rw [e]
  simp -implicitDefEqProofs only [EE,zw,zi,WC,gq,k2,hb]
  exact ⟨cl,s⟩
end
section
variable {lo:yV} {h:za} {L:List HP} {b mb wb:Nat} {p:Pg} {S:St} {lv ev lk gl cl:Value} {lim:Int} {i:uF}
theorem Wg {q cp:Nat} {c:Fr} {ini:List Fr} (s:Sat lo h (Za 134 7 cl ((ini ++ [c]).map uD) :: L)) (hcl:cl = .slice (some ⟨q,0,none⟩) (ini.length + 1) cp):∃ cs,h.get q=some (.cells cs 134)/\h.ro<=q/\q < h.next/\ini.length * 7 + 7<=cs.length/\cs[ini.length * 7]? = some (.int .i64 (c.f:Nat))/\cs[ini.length * 7 + 1]? = some (.int .i64 c.pt)/\cs[ini.length * 7 + 2]? = some (.int .i64 c.Xf)/\cs[ini.length * 7 + 3]? = some (.int .i64 c.size)/\(cs.drop (ini.length * 7 + 4)).take 3 = [.int .i64 c.iT.k,.int .i64 c.iT.n,.int .i64 c.iT.b]:=by
 have hrow:((ini ++ [c]).map uD)[ini.length]? = some (uD c):=by rw [SI];simp
 obtain ⟨q',c',cs,e1,gq,wq,ltq,lq,tq,kq,_⟩:=i3 s (hE _) hrow
 rw [hcl] at e1
 simp only [TZ,Se,aal,Tk] at e1
 obtain ⟨rfl,_,rfl⟩:=e1
 have k0:=kq 0 (by decide)
 rw [aag] at k0
 refine ⟨cs,gq,wq,ltq,lq,k0,kq 1 (by decide),kq 2 (by decide),kq 3 (by decide),?_⟩
 have:(cs.drop (ini.length * 7 + 4)).take 3=((cs.drop (ini.length * 7)).take 7).drop 4:=by
  rw [List.drop_take,List.drop_drop]
 rw [this,tq];rfl
theorem aP {q cp:Nat} {c c':Fr} {ini:List Fr} {K:za->Prop} (s:Sat lo h (Za 134 7 cl ((ini ++ [c]).map uD) :: L)) (hcl:cl = .slice (some ⟨q,0,none⟩) (ini.length + 1) cp) {j:Nat} {vs:List Value} (hj:j + vs.length<=7) (hc:vs.all wZ=true) (e:zf (uD c) j vs=uD c') (k:∀ h',Sat lo h' (Za 134 7 cl ((ini ++ [c']).map uD) :: L)->K h'):opt (vf h q (ini.length * 7 + j) vs) K:=by
 have hrow:((ini ++ [c]).map uD)[ini.length]? = some (uD c):=by rw [SI];simp
 obtain ⟨q',c1,cs,e1,gq,wq,ltq,lq,tq,kq,s2⟩:=i3 s (hE _) hrow
 rw [hcl] at e1
 simp only [TZ,Se,aal,Tk] at e1
 obtain ⟨rfl,_,rfl⟩:=e1
 refine HG gq wq lq s2 hj hc fun h' s'=>k h' ?_
 rw [e] at s'
 have:((ini ++ [c]).map uD).set ini.length (uD c')=(ini ++ [c']).map uD:=by
  rw [<- List.map_set,List.set_append_right _ _ (Sp _)];simp
 rw [this] at s'
 exact s'
theorem Ds (hl:S.YV.length=16) (v:V):zf (vx p lv mb wb S ev lk gl cl lim) 26 [.int .i64 v.k,.int .i64 v.n,.int .i64 v.b]=vx p lv mb wb (vZ S 4 v) ev lk gl cl lim:=iY (r:=4) (by decide) (by decide) hl v
theorem Da {q cp:Nat} {c:Fr} {ini:List Fr} (s:Sat lo h [pt b (xI p lv mb wb S ev lk gl cl lim),Za 134 7 cl (S.calls.map uD),YQ mb S.mem]) (hcl:cl = .slice (some ⟨q,0,none⟩) (ini.length + 1) cp) (hc:S.calls=ini ++ [c]) (hs:N3 lim S) (hl:S.YV.length=16) (hL:S.mem.length<=100000) (hb:c.Xf < 9223372036854775808) (hz:0<=c.size/\c.size<=65536) (k0:0<=i.k) (k1:i.k<=65536) (ho:i.op=23\/i.op=24) :
  DC Tryz.prog 94 [xK b,.pointer (some ⟨q,ini.length * 7,none⟩),i.val] h (fun v h'=>v = .bool (wW lim S c i).2/\Sat lo h' [pt b (xI p lv mb wb (wW lim S c i).1 ev lk gl cl lim),Za 134 7 cl ((wW lim S c i).1.calls.map uD),YQ mb (wW lim S c i).1.mem]):=by
 apply A6
 unfold ou xK
 rw [hc] at s
 simp -implicitDefEqProofs only [EE,Value.cells]
 refine vy s fun b5 h2 s2 => ?_
 have g5:=s2.get
 obtain ⟨cs,gq,wq,ltq,lq,kf,kp,kb,kz,kr⟩:=Wg (s2.p 2) hcl
 by_cases h24:i.op=24
 ·simp -implicitDefEqProofs only [EE,zw,zi,WC,zg,me,g5,h24]
  by_cases hb0:c.Xf=0
  ·have e:wW lim S c i=(S,false):=by unfold wW;rw [Sn h24,Sn (.inl hb0)]
   rw [e]
   simp -implicitDefEqProofs only [EE,QP,QQ,QR,gq,kb,hb0]
   rw [hc]
   exact s2.k [1,2,3]
  ·by_cases hz0:c.size=i.k
   ·simp -implicitDefEqProofs only [EE,zw,cC,yQ,zi,VJ,WC,J1,zQ,mc,QP,QQ,QR,gq,kb,kz,g5,hb0,hz0]
    have gm:=(s2.p 1).get
    unfold xI at gm
    simp -implicitDefEqProofs only [EE,gm,E7]
    obtain ⟨lo1,l1,s3,fr⟩:=(s2.f [3]).call (L2:=[YQ mb S.mem])
    refine qu (by kernel_rfl) rfl (M1 s3 hL hb) ?_
    rintro v h3 ⟨rfl,s4⟩
    have s5:=fr _ _ s4
    clear gq kf kp kb kz kr gm
    obtain ⟨cs,gq,wq,ltq,lq,kf,kp,kb,kz,kr⟩:=Wg (s5.p 3) hcl
    have gm:=(s5.p 2).get
    unfold xI at gm
    have w1:IntKind.wrap .i64 (S.stack - c.size)=S.stack - c.size:=Go.Mem.Yb (by have:=hs.s0;omega) (by have:=hs.s1;omega)
    simp -implicitDefEqProofs only [EE,zw,zi,Wx,VI,J1,ma,gm,gq,kz,t9,w1]
    refine wx (s5.p 2) (by simp [vP]) rfl fun h6 s6 => ?_
    rw [HR] at s6
    obtain ⟨cs2,gq2,_,_,lq2,_,_,_,_,kr2⟩:=Wg (s6.p 3) hcl
    have lr:ini.length * 7 + 4 + 3<=cs2.length:=by omega
    have lr2:ini.length * 7 + 7<=cs2.length:=lq2
    simp -implicitDefEqProofs only [EE,Sf,Nat.reduceAdd,Nat.reduceMul,Int.reduceLT,Int.reduceLE,Int.reduceToNat,ye,zq,zL,xV,tt,qD,gq2,kr2,lr]
    refine wx s6 (by simp [vP]) rfl fun h7 s7 => ?_
    rw [Ds (S:={ S with stack:=S.stack - c.size }) hl] at s7
    simp -implicitDefEqProofs only [EE,Wx,WC]
    refine aP (c':={ c with Xf:=0 }) (s7.p 3) hcl (j:=2) (by simp) rfl rfl fun h8 s8 => ?_
    simp -implicitDefEqProofs only [EE]
    have e:wW lim S c i=(ja (vZ { S with mem:=(VO S.mem c.Xf).getD S.mem,stack:=S.stack - c.size } 4 c.iT) { c with Xf:=0 },true):=by
     unfold wW;rw [Sn h24,Sl (by rintro (q | q);exact hb0 q;exact q hz0)]
    have ec:(ja (vZ { S with mem:=(VO S.mem c.Xf).getD S.mem,stack:=S.stack - c.size } 4 c.iT) { c with Xf:=0 }).calls=ini ++ [{ c with Xf:=0 }]:=by
     show S.calls.dropLast ++ [_]=_
     rw [hc,T0]
    rw [e]
    refine ⟨rfl,?_⟩
    rw [ec]
    exact s8.k [1,0,2]
   ·have e:wW lim S c i=(S,false):=by unfold wW;rw [Sn h24,Sn (.inr hz0)]
    rw [e]
    simp -implicitDefEqProofs only [EE,zw,yQ,zi,J1,zQ,QP,QQ,QR,gq,kb,kz,g5,hb0,hz0]
    rw [hc]
    exact s2.k [1,2,3]
 ·simp -implicitDefEqProofs only [EE,zw,zi,WC,zg,fX,g5,h24,gq,kb]
  by_cases hb0:c.Xf=0
  ·simp -implicitDefEqProofs only [EE,zw,yQ,zQ,fW,g5,hb0]
   have e0:wW lim S c i=if (yM lim S i.k).2=true then
     (ja (vZ { (yM lim S i.k).1 with mem:=(w8 S.mem i.k).1 } 4 (np (w8 S.mem i.k).2.1 0)) { c with Xf:=(w8 S.mem i.k).2.1,size:=i.k,iT:=zB S 4 },decide ((w8 S.mem i.k).2.2=0))
    else ((yM lim S i.k).1,true):=by unfold wW;rw [Sl h24,Sl (fun q=>q hb0)]
   have ec:(yM lim S i.k).1.calls=S.calls:=by unfold yM;split <;> rfl
   have em:(yM lim S i.k).1.mem=S.mem:=by unfold yM;split <;> rfl
   have er:(yM lim S i.k).1.YV=S.YV:=by unfold yM;split <;> rfl
   refine z7 (by kernel_rfl) rfl (Hf (s2.f [1]) hs k0 (by omega)) ?_
   rintro v h3 ⟨rfl,s3⟩
   cases hg:(yM lim S i.k).2 with
   | false=>
     rw [Sl (by rw [hg];simp)] at e0
     rw [e0]
     simp -implicitDefEqProofs only [EE]
     rw [ec,em,hc]
     exact s3.k [0,2,3]
   | true=>
     rw [Sn hg] at e0
     have g5:=(s3.p 1).get
     have gm:=s3.get
     unfold xI at gm
     simp -implicitDefEqProofs only [EE,zw,cC,yQ,VJ,zQ,mi,gm,g5,E7]
     obtain ⟨lo1,l1,s4,fr⟩:=(s3.f [3]).call (L2:=[YQ mb S.mem])
     refine qu (by kernel_rfl) rfl (CX s4 i.k) ?_
     rintro v h4 ⟨rfl,s5⟩
     have s6:=fr _ _ s5
     obtain ⟨M',rB,rE,hA⟩:∃ M' rB rE,w8 S.mem i.k=(M',rB,rE):=⟨_,_,_,rfl⟩
     rw [hA] at s6 e0 ⊢
     have g5:=(s6.p 2).get
     have gm:=(s6.p 1).get
     unfold xI at gm
     have hne:b5 ≠ q:=by
      intro e
      obtain ⟨cs,gq,_⟩:=Wg (s6.p 3) hcl
      rw [<- e,g5] at gq
      cases gq
     have hne2:q ≠ b5:=fun q=>hne q.symm
     have eg:zB (yM lim S i.k).1 4=zB S 4:=by unfold zB;rw [er]
     simp -implicitDefEqProofs only [EE,Sf,Nat.reduceAdd,Nat.reduceLeDiff,Nat.reduceMul,Int.reduceLT,Int.reduceLE,Int.reduceToNat,ne_eq,ye,zw,yQ,zq,Wx,xV,WC,zQ,qD,mg,gm,g5,aK,Ln,eg,sK,hne2,ne_eq,true_or]
     refine aP (c':={ c with Xf:=rB }) (s6.p 3) hcl (j:=2) (by simp) rfl rfl fun h7 s7 => ?_
     simp -implicitDefEqProofs only [EE,Wx,J1]
     refine aP (c':={ c with Xf:=rB,size:=i.k }) s7 hcl (j:=3) (by simp) rfl rfl fun h8 s8 => ?_
     simp -implicitDefEqProofs only [EE,Nat.reduceAdd,zL,tt]
     refine aP (c':={ c with Xf:=rB,size:=i.k,iT:=zB S 4 }) s8 hcl (j:=4) (by simp) rfl rfl fun h9 s9 => ?_
     simp -implicitDefEqProofs only []
     refine qR (by kernel_rfl) rfl (GF rB 0 _) ?_
     simp -implicitDefEqProofs only [EE,Sf,Nat.reduceAdd,Nat.reduceMul,Int.reduceLT,Int.reduceLE,Int.reduceToNat,zL,xV,qD,mf]
     refine wx (s9.p 2) (by simp [vP]) rfl fun h10 s10 => ?_
     rw [Ds (by rw [er];exact hl)] at s10
     simp -implicitDefEqProofs only [EE]
     have ec2:(ja (vZ { (yM lim S i.k).1 with mem:=M' } 4 (np rB 0)) { c with Xf:=rB,size:=i.k,iT:=zB S 4 }).calls=ini ++ [{ c with Xf:=rB,size:=i.k,iT:=zB S 4 }]:=by
      show (yM lim S i.k).1.calls.dropLast ++ [_]=_
      rw [ec,hc,T0]
     rw [e0]
     refine ⟨rfl,?_⟩
     show Sat lo h10 [pt b (xI p lv mb wb (ja (vZ { (yM lim S i.k).1 with mem:=M' } 4 (np rB 0)) { c with Xf:=rB,size:=i.k,iT:=zB S 4 }) ev lk gl cl lim),Za 134 7 cl ((ja (vZ { (yM lim S i.k).1 with mem:=M' } 4 (np rB 0)) { c with Xf:=rB,size:=i.k,iT:=zB S 4 }).calls.map uD),YQ mb M']
     rw [ec2]
     exact s10.k [0,1,2]
  ·have e:wW lim S c i=(S,false):=by unfold wW;rw [Sl h24,Sn hb0]
   rw [e]
   simp -implicitDefEqProofs only [EE,hb0]
   rw [hc]
   exact s2.k [1,2,3]
end
def Vl (p:Pg) (b mb wb:Nat) (wn:Value) (world:List Int) (lim:Int) (lv gl:Value) (S:St) (ev lk cl:Value):List HP :=
 [pt b (xI p lv mb wb S ev lk gl cl lim),Za 80 3 lk (S.lk.map qw),Za 85 2 ev (S.ev.map jF),Za 134 7 cl (S.calls.map uD),YQ mb S.mem,pt wb (.cells [wn,.int .i64 S.used] 151),Za 2 1 wn (world.map qX)]
def Zy (lo:yV) (p:Pg) (b mb wb:Nat) (wn:Value) (world:List Int) (lim:Int) (lv gl:Value) (S:St) (h:za):Prop := ∃ ev lk cl,Sat lo h (Vl p b mb wb wn world lim lv gl S ev lk cl)
structure Jw (lim:Int) (S:St):Prop where
 hl:S.YV.length=16
 hv:∀ r,vb (zB S r)
 Mi:N3 lim S
 lk:(S.lk.length + 1) * 24<=2 ^ 47
 ev:(S.ev.length + 1) * 16<=2 ^ 47
 cs:(S.calls.length + 1) * 56<=2 ^ 47
 mem:small S.mem/\S.mem.length<=100000
 used:0<=S.used/\S.used < 4611686018427387904
structure PM (c:Fr):Prop where
 Xf:c.Xf < 9223372036854775808
 size:0<=c.size/\c.size<=65536
section
variable {lo:yV} {h:za} {L:List HP} {b mb wb:Nat} {p:Pg} {S:St} {wn lv gl ev lk cl:Value} {world:List Int} {lim:Int} {i:uF} {c:Fr} {q j:Nat}
theorem pU {X:List HP} {r:Int} {K:za->Prop} (s:Sat lo h (pt b (xI p lv mb wb S ev lk gl cl lim) :: X)) (hl:S.YV.length=16) (h0:0<=r) (h1:r < 16) (v:V) (k:∀ h',Sat lo h' (pt b (xI p lv mb wb (vZ S r v) ev lk gl cl lim) :: X)->K h'):opt (vf h b (14 + r.toNat * 3) [.int .i64 v.k,.int .i64 v.n,.int .i64 v.b]) K:=by
 refine wx s (by rw [vP];simp;omega) rfl fun h' s' => ?_
 have e:zf (vx p lv mb wb S ev lk gl cl lim) (14 + r.toNat * 3) [.int .i64 v.k,.int .i64 v.n,.int .i64 v.b]=vx p lv mb wb (vZ S r v) ev lk gl cl lim:=iY h0 h1 hl v
 rw [e] at s'
 exact k h' s'
theorem W2 (S:St) (i:uF):(yO S i).1.ev=S.ev/\(yO S i).1.calls=S.calls/\(yO S i).1.used=S.used:=by
 unfold yO
 split
 ·exact ⟨rfl,rfl,rfl⟩
 ·split
  ·split
   ·split <;> exact ⟨rfl,rfl,rfl⟩
   ·exact ⟨rfl,rfl,rfl⟩
  ·exact ⟨rfl,rfl,rfl⟩
theorem Ro (s:Sat lo h (Vl p b mb wb wn world lim lv gl S ev lk cl)) (B:Jw lim S) (hk:i.op=1) (r0:0<=i.r) (r1:i.r < 16) (m0:0<=i.m) (m1:i.m < 16) :
  DC Tryz.prog 66 [xK b,.pointer (some ⟨q,j,none⟩),i.val] h (fun v h'=>v = .bool true/\Zy lo p b mb wb wn world lim lv gl (vZ S i.r (zB S i.m)) h'):=by
 apply wu
 unfold uS xK
 simp -implicitDefEqProofs only [EE,Value.cells]
 refine vy s fun b5 h2 s2 => ?_
 have g5:=s2.get
 have gm:=(s2.p 1).get
 unfold xI at gm
 simp -implicitDefEqProofs only [EE,↓yL,Sf,Nat.reduceAdd,ye,zw,zi,zq,zL,xV,zg,wG,xJ,qD,na,xt,g5,gm,hk,m0,m1,jX m1,jW m0 m1,r0,r1]
 refine pU (s2.p 1) B.hl r0 r1 _ fun h3 s3 => ?_
 simp -implicitDefEqProofs only [EE]
 exact ⟨ev,lk,cl,(s3.p 1).drop⟩
theorem Rp (s:Sat lo h (Vl p b mb wb wn world lim lv gl S ev lk cl)) (B:Jw lim S) (hk:i.op=2) (r0:0<=i.r) (r1:i.r < 16) :
  DC Tryz.prog 66 [xK b,.pointer (some ⟨q,j,none⟩),i.val] h (fun v h'=>v = .bool true/\Zy lo p b mb wb wn world lim lv gl (vZ S i.r (qx i.k)) h'):=by
 apply wu
 unfold uS xK
 simp -implicitDefEqProofs only [EE,Value.cells]
 refine vy s fun b5 h2 s2 => ?_
 have g5:=s2.get
 have gm:=(s2.p 1).get
 unfold xI at gm
 simp -implicitDefEqProofs only [EE,↓yL,Int.reduceEq,zw,yQ,zi,zg,wG,zQ,m9,xM,xt,g5,hk]
 refine qR (by kernel_rfl) rfl (ZL i.k _) ?_
 simp -implicitDefEqProofs only [EE,Sf,Nat.reduceAdd,zL,xV,qD,si,r0,r1]
 refine pU (s2.p 1) B.hl r0 r1 _ fun h3 s3 => ?_
 simp -implicitDefEqProofs only [EE]
 exact ⟨ev,lk,cl,(s3.p 1).drop⟩
theorem Rq (s:Sat lo h (Vl p b mb wb wn world lim lv gl S ev lk cl)) (B:Jw lim S) (hk:i.op=3) (r0:0<=i.r) (r1:i.r < 16) (m0:0<=i.m) (m1:i.m < 16) (hsub:YU i.sub) :
  DC Tryz.prog 66 [xK b,.pointer (some ⟨q,j,none⟩),i.val] h (fun v h'=>v = .bool (yO S i).2/\Zy lo p b mb wb wn world lim lv gl (yO S i).1 h'):=by
 apply wu
 unfold uS xK
 simp -implicitDefEqProofs only [EE,Value.cells]
 refine vy s fun b5 h2 s2 => ?_
 have g5:=s2.get
 have gm:=(s2.p 1).get
 unfold xI at gm
 simp -implicitDefEqProofs only [EE,nth,↓yL,Sf,Nat.reduceAdd,Int.reduceEq,ye,zw,zi,vS,zg,xX,xY,xM,xt,g5,hk]
 have ei:i.val = .agg #[.int .i64 3,.int .i64 i.r,.int .i64 i.m,.int .i64 i.sub,.int .i64 i.cc,.int .i64 i.l,.int .i64 i.k]:=by rw [<- hk]
 rw [<- ei]
 obtain ⟨lo1,l1,s3,fr⟩:=(s2.f [1,2,5]).call (L2:=[pt b (xI p lv mb wb S ev lk gl cl lim),Za 80 3 lk (S.lk.map qw),YQ mb S.mem])
 refine z7 (by kernel_rfl) rfl (sy (i:=i) s3 B.lk B.hl B.hv B.mem.1 hsub m0 m1 r0 r1) ?_
 rintro v h4 ⟨rfl,lk',s4⟩
 have s5:=fr _ _ s4
 simp -implicitDefEqProofs only [EE]
 have ee:(yO S i).1.ev=S.ev/\(yO S i).1.calls=S.calls/\(yO S i).1.used=S.used:=W2 S i
 refine ⟨ev,lk',cl,?_⟩
 unfold Vl
 rw [ee.1,ee.2.1,ee.2.2]
 exact s5.k [0,1,4,5,2,6,7]
theorem Rr (s:Sat lo h (Vl p b mb wb wn world lim lv gl S ev lk cl)) (B:Jw lim S) (hk:i.op=4) (r0:0<=i.r) (r1:i.r < 16) (m0:0<=i.m) (m1:i.m < 16) (hsub:YU i.sub) :
  DC Tryz.prog 66 [xK b,.pointer (some ⟨q,j,none⟩),i.val] h (fun v h'=>v = .bool (yO S i).2/\Zy lo p b mb wb wn world lim lv gl (yO S i).1 h'):=by
 apply wu
 unfold uS xK
 simp -implicitDefEqProofs only [EE,Value.cells]
 refine vy s fun b5 h2 s2 => ?_
 have g5:=s2.get
 have gm:=(s2.p 1).get
 unfold xI at gm
 simp -implicitDefEqProofs only [EE,nth,↓yL,Sf,Nat.reduceAdd,Int.reduceEq,ye,zw,zi,vS,zg,xX,xY,xM,xt,g5,hk]
 have ei:i.val = .agg #[.int .i64 4,.int .i64 i.r,.int .i64 i.m,.int .i64 i.sub,.int .i64 i.cc,.int .i64 i.l,.int .i64 i.k]:=by rw [<- hk]
 rw [<- ei]
 obtain ⟨lo1,l1,s3,fr⟩:=(s2.f [1,2,5]).call (L2:=[pt b (xI p lv mb wb S ev lk gl cl lim),Za 80 3 lk (S.lk.map qw),YQ mb S.mem])
 refine z7 (by kernel_rfl) rfl (sy (i:=i) s3 B.lk B.hl B.hv B.mem.1 hsub m0 m1 r0 r1) ?_
 rintro v h4 ⟨rfl,lk',s4⟩
 have s5:=fr _ _ s4
 simp -implicitDefEqProofs only [EE]
 have ee:(yO S i).1.ev=S.ev/\(yO S i).1.calls=S.calls/\(yO S i).1.used=S.used:=W2 S i
 refine ⟨ev,lk',cl,?_⟩
 unfold Vl
 rw [ee.1,ee.2.1,ee.2.2]
 exact s5.k [0,1,4,5,2,6,7]
theorem Rs (s:Sat lo h (Vl p b mb wb wn world lim lv gl S ev lk cl)) (B:Jw lim S) (hk:i.op=5) (r0:0<=i.r) (r1:i.r < 16) (m0:0<=i.m) (m1:i.m < 16) :
  DC Tryz.prog 66 [xK b,.pointer (some ⟨q,j,none⟩),i.val] h (fun v h'=>v = .bool (vF S i.r (yu 11 (zB S i.m) (qx i.k))).2/\Zy lo p b mb wb wn world lim lv gl (vF S i.r (yu 11 (zB S i.m) (qx i.k))).1 h'):=by
 apply wu
 unfold uS xK
 simp -implicitDefEqProofs only [EE,Value.cells]
 refine vy s fun b5 h2 s2 => ?_
 have g5:=s2.get
 have gm:=(s2.p 1).get
 unfold xI at gm
 simp -implicitDefEqProofs only [EE,nth,↓yL,Sf,Nat.reduceAdd,Int.reduceEq,ye,zw,yQ,zi,vS,zq,xV,zg,wG,xJ,zQ,qD,m8,wC,xX,xY,xM,xt,g5,gm,hk,m0,m1,jX m1,jW m0 m1]
 refine qR (by kernel_rfl) rfl (ZL i.k _) ?_
 refine qu (by kernel_rfl) rfl (dG (s2.p 1) B.hl r0 r1 11 (zB S i.m) (qx i.k)) ?_
 rintro v h3 ⟨rfl,s3⟩
 simp -implicitDefEqProofs only [EE]
 exact ⟨ev,lk,cl,(s3.p 1).drop⟩
theorem Rt (s:Sat lo h (Vl p b mb wb wn world lim lv gl S ev lk cl)) (B:Jw lim S) (hk:i.op=6) (r0:0<=i.r) (r1:i.r < 16) (s0:0<=i.sub) (s1:i.sub < S.gl.length) (hg:Rd lo (zE · gl S.gl)) :
  DC Tryz.prog 66 [xK b,.pointer (some ⟨q,j,none⟩),i.val] h (fun v h'=>v = .bool true/\Zy lo p b mb wb wn world lim lv gl (vZ S i.r (np (S.gl.getD i.sub.toNat 0) i.k)) h'):=by
 apply wu
 unfold uS xK
 simp -implicitDefEqProofs only [EE,Value.cells]
 refine vy s fun b5 h2 s2 => ?_
 have g5:=s2.get
 have gm:=(s2.p 1).get
 unfold xI at gm
 obtain ⟨z,hz⟩:∃ z,S.gl[i.sub.toNat]? = some z:=⟨_,Sk (by omega)⟩
 obtain ⟨bb,o,cs,t,hix,hb,hgt,hat0⟩:=gD (hg.at s2) hz
 rw [show ((i.sub.toNat:Nat):Int)=i.sub from Int.toNat_of_nonneg s0] at hix
 have gn:=(hg.at s2).YR
 rw [show S.gl.getD i.sub.toNat 0=z by rw [SU,hz];rfl]
 simp -implicitDefEqProofs only [EE,nth,↓yL,Sf,Nat.reduceAdd,Int.reduceEq,ye,zw,yQ,u9,zi,vS,tp,zg,wG,zD,zQ,m7,wX,wC,xX,xY,xM,xt,g5,gm,hk,L9,hix,hgt,hat0]
 refine qR (by kernel_rfl) rfl (GF z i.k _) ?_
 simp -implicitDefEqProofs only [EE,Sf,Nat.reduceAdd,zL,xV,qD,sj,r0,r1]
 refine pU (s2.p 1) B.hl r0 r1 _ fun h3 s3 => ?_
 simp -implicitDefEqProofs only []
 exact ⟨ev,lk,cl,(s3.p 1).drop⟩
theorem Ru (s:Sat lo h (Vl p b mb wb wn world lim lv gl S ev lk cl)) (B:Jw lim S) (hk:i.op=7) (r0:0<=i.r) (r1:i.r < 16) (m0:0<=i.m) (m1:i.m < 16) :
  DC Tryz.prog 66 [xK b,.pointer (some ⟨q,j,none⟩),i.val] h (fun v h'=>v = .bool (vF S i.r (yu i.sub (zB S i.r) (zB S i.m))).2/\Zy lo p b mb wb wn world lim lv gl (vF S i.r (yu i.sub (zB S i.r) (zB S i.m))).1 h'):=by
 apply wu
 unfold uS xK
 simp -implicitDefEqProofs only [EE,Value.cells]
 refine vy s fun b5 h2 s2 => ?_
 have g5:=s2.get
 have gm:=(s2.p 1).get
 unfold xI at gm
 simp -implicitDefEqProofs only [EE,nth,↓yL,Sf,Nat.reduceAdd,Int.reduceEq,ye,zw,zi,vS,zq,xV,zg,wG,xJ,zD,qD,m6,w6,wX,wC,xX,xY,xM,xt,g5,gm,hk,m0,m1,jX m1,jW m0 m1,r0,r1,jX r1,jW r0 r1]
 refine qu (by kernel_rfl) rfl (dG (s2.p 1) B.hl r0 r1 i.sub (zB S i.r) (zB S i.m)) ?_
 rintro v h3 ⟨rfl,s3⟩
 simp -implicitDefEqProofs only [EE]
 exact ⟨ev,lk,cl,(s3.p 1).drop⟩
theorem Rv (s:Sat lo h (Vl p b mb wb wn world lim lv gl S ev lk cl)) (B:Jw lim S) (hk:i.op=8) (r0:0<=i.r) (r1:i.r < 16) :
  DC Tryz.prog 66 [xK b,.pointer (some ⟨q,j,none⟩),i.val] h (fun v h'=>v = .bool (vF S i.r (yu i.sub (zB S i.r) (qx i.k))).2/\Zy lo p b mb wb wn world lim lv gl (vF S i.r (yu i.sub (zB S i.r) (qx i.k))).1 h'):=by
 apply wu
 unfold uS xK
 simp -implicitDefEqProofs only [EE,Value.cells]
 refine vy s fun b5 h2 s2 => ?_
 have g5:=s2.get
 have gm:=(s2.p 1).get
 unfold xI at gm
 simp -implicitDefEqProofs only [EE,nth,↓yL,Sf,Nat.reduceAdd,Int.reduceEq,ye,zw,yQ,zi,vS,zq,xV,zg,wG,zD,zQ,qD,cB,vd,w6,wX,wC,xX,xY,xM,xt,g5,gm,hk,r0,r1,jX r1,jW r0 r1]
 refine qR (by kernel_rfl) rfl (ZL i.k _) ?_
 refine qu (by kernel_rfl) rfl (dG (s2.p 1) B.hl r0 r1 i.sub (zB S i.r) (qx i.k)) ?_
 rintro v h3 ⟨rfl,s3⟩
 simp -implicitDefEqProofs only [EE]
 exact ⟨ev,lk,cl,(s3.p 1).drop⟩
theorem O3 (s:Sat lo h (Vl p b mb wb wn world lim lv gl S ev lk cl)) (B:Jw lim S) (hk:i.op=11) (r0:0<=i.r) (r1:i.r < 16) :
  DC Tryz.prog 66 [xK b,.pointer (some ⟨q,j,none⟩),i.val] h (fun v h'=>v = .bool (vF S i.r (yu i.sub (zB S i.r) (qx i.k))).2/\Zy lo p b mb wb wn world lim lv gl (vF S i.r (yu i.sub (zB S i.r) (qx i.k))).1 h'):=by
 apply wu
 unfold uS xK
 simp -implicitDefEqProofs only [EE,Value.cells]
 refine vy s fun b5 h2 s2 => ?_
 have g5:=s2.get
 have gm:=(s2.p 1).get
 unfold xI at gm
 simp -implicitDefEqProofs only [EE,nth,↓yL,Sf,Nat.reduceAdd,Int.reduceEq,ye,zw,yQ,zi,vS,zq,xV,zg,wG,zD,zQ,qD,cB,vd,w6,wX,wC,xX,xY,xM,xt,g5,gm,hk,r0,r1,jX r1,jW r0 r1]
 refine qR (by kernel_rfl) rfl (ZL i.k _) ?_
 refine qu (by kernel_rfl) rfl (dG (s2.p 1) B.hl r0 r1 i.sub (zB S i.r) (qx i.k)) ?_
 rintro v h3 ⟨rfl,s3⟩
 simp -implicitDefEqProofs only [EE]
 exact ⟨ev,lk,cl,(s3.p 1).drop⟩
theorem Rw (s:Sat lo h (Vl p b mb wb wn world lim lv gl S ev lk cl)) (B:Jw lim S) (hk:i.op=9) (r0:0<=i.r) (r1:i.r < 16) :
  DC Tryz.prog 66 [xK b,.pointer (some ⟨q,j,none⟩),i.val] h (fun v h'=>v = .bool (vF S i.r (eh i.sub (zB S i.r))).2/\Zy lo p b mb wb wn world lim lv gl (vF S i.r (eh i.sub (zB S i.r))).1 h'):=by
 apply wu
 unfold uS xK
 simp -implicitDefEqProofs only [EE,Value.cells]
 refine vy s fun b5 h2 s2 => ?_
 have g5:=s2.get
 have gm:=(s2.p 1).get
 unfold xI at gm
 simp -implicitDefEqProofs only [EE,nth,↓yL,Sf,Nat.reduceAdd,Int.reduceEq,ye,zw,zi,vS,zq,xV,zg,wG,zD,qD,m5,vz,vd,w6,wX,wC,xX,xY,xM,xt,g5,gm,hk,r0,r1,jX r1,jW r0 r1]
 refine qu (by kernel_rfl) rfl (PH (s2.p 1) B.hl r0 r1 i.sub (zB S i.r)) ?_
 rintro v h3 ⟨rfl,s3⟩
 simp -implicitDefEqProofs only [EE]
 exact ⟨ev,lk,cl,(s3.p 1).drop⟩
theorem O2 (s:Sat lo h (Vl p b mb wb wn world lim lv gl S ev lk cl)) (B:Jw lim S) (hk:i.op=10) (r0:0<=i.r) (r1:i.r < 16) (m0:0<=i.m) (m1:i.m < 16) :
  DC Tryz.prog 66 [xK b,.pointer (some ⟨q,j,none⟩),i.val] h (fun v h'=>v = .bool (vF S i.r (eh i.sub (zB S i.m))).2/\Zy lo p b mb wb wn world lim lv gl (vF S i.r (eh i.sub (zB S i.m))).1 h'):=by
 apply wu
 unfold uS xK
 simp -implicitDefEqProofs only [EE,Value.cells]
 refine vy s fun b5 h2 s2 => ?_
 have g5:=s2.get
 have gm:=(s2.p 1).get
 unfold xI at gm
 simp -implicitDefEqProofs only [EE,nth,↓yL,Sf,Nat.reduceAdd,Int.reduceEq,ye,zw,zi,vS,zq,xV,zg,wG,xJ,zD,qD,m3,vJ,vz,vd,w6,wX,wC,xX,xY,xM,xt,g5,gm,hk,m0,m1,jX m1,jW m0 m1]
 refine qu (by kernel_rfl) rfl (PH (s2.p 1) B.hl r0 r1 i.sub (zB S i.m)) ?_
 rintro v h3 ⟨rfl,s3⟩
 simp -implicitDefEqProofs only [EE]
 exact ⟨ev,lk,cl,(s3.p 1).drop⟩
end
def VW (p:Pg) (lv:Value) (h:za):Prop := ∃ ls:List Nat,zW h lv 1 (ls.map fun q=>[.map (some q)])/\ls.length=p.funcs.length /\ ∀ (k q:Nat) (f:Fn),ls[k]? = some q->p.funcs[k]? = some f->h.get q=some (Qq (Vd f.code 0 []))
section
variable {lo:yV} {h:za} {L:List HP} {b mb wb:Nat} {p:Pg} {S:St} {wn lv gl ev lk cl:Value} {world:List Int} {lim:Int} {i:uF} {c:Fr} {ini:List Fr} {q j cp:Nat}
theorem Ob (n:Int):IntKind.wrap .i64 (BitVec.ofInt IntKind.i64.bits n &&& BitVec.ofInt IntKind.i64.bits 63).toNat=X1 (· &&& ·) n 63:=rfl
theorem Lr (hl:S.YV.length=16) (v:V):zf (vx p lv mb wb S ev lk gl cl lim) 20 [.int .i64 v.k,.int .i64 v.n,.int .i64 v.b]=vx p lv mb wb (vZ S 2 v) ev lk gl cl lim:=iY (r:=2) (by decide) (by decide) hl v
theorem Lq (hl:S.YV.length=16) (v:V):zf (vx p lv mb wb S ev lk gl cl lim) 14 [.int .i64 v.k,.int .i64 v.n,.int .i64 v.b]=vx p lv mb wb (vZ S 0 v) ev lk gl cl lim:=iY (r:=0) (by decide) (by decide) hl v
theorem Py (v:V):zf (vx p lv mb wb S ev lk gl cl lim) 63 [.int .i64 v.k,.int .i64 v.n,.int .i64 v.b]=vx p lv mb wb { S with a:=v } ev lk gl cl lim:=Pv v
theorem Pz (v:V):zf (vx p lv mb wb S ev lk gl cl lim) 66 [.int .i64 v.k,.int .i64 v.n,.int .i64 v.b]=vx p lv mb wb { S with b:=v } ev lk gl cl lim:=Pw v
theorem OQ {r r':Int} {v:V} (h0:0<=r) (h1:0<=r') (hn:r ≠ r'):zB (vZ S r v) r'=zB S r':=by
 unfold zB vZ
 rw [hZ h1,hZ h1]
 show (S.YV.set r.toNat v).getD r'.toNat v0=_
 rw [SU,SU,TA (by omega)]
theorem sZ (S:St) (m:V):(ZI S m).1.ev=S.ev/\(ZI S m).1.calls=S.calls/\(ZI S m).1.used=S.used/\(ZI S m).1.mem=S.mem:=by
 unfold ZI
 split
 ·split
  ·split <;> exact ⟨rfl,rfl,rfl,rfl⟩
  ·exact ⟨rfl,rfl,rfl,rfl⟩
 ·exact ⟨rfl,rfl,rfl,rfl⟩
theorem O4 (s:Sat lo h (Vl p b mb wb wn world lim lv gl S ev lk cl)) (B:Jw lim S) (hk:i.op=12) (r0:0<=i.r) (r1:i.r < 16) :
  DC Tryz.prog 66 [xK b,.pointer (some ⟨q,j,none⟩),i.val] h (fun v h'=>v = .bool (if (zB S 1).k=1 then (vF S i.r (yu i.sub (zB S i.r) (qx (X1 (· &&& ·) (zB S 1).n 63)))) else (S,false)).2/\Zy lo p b mb wb wn world lim lv gl (if (zB S 1).k=1 then (vF S i.r (yu i.sub (zB S i.r) (qx (X1 (· &&& ·) (zB S 1).n 63)))) else (S,false)).1 h'):=by
 apply wu
 unfold uS xK
 simp -implicitDefEqProofs only [EE,Value.cells]
 refine vy s fun b5 h2 s2 => ?_
 have g5:=s2.get
 have gm:=(s2.p 1).get
 unfold xI at gm
 simp -implicitDefEqProofs only [EE,nth,Value.cells,↓yL,Sf,Nat.reduceAdd,Nat.reduceLeDiff,Nat.reduceMul,Int.reduceEq,Int.reduceLT,Int.reduceLE,Int.reduceToNat,ye,zw,zi,vS,zq,vG,xV,zg,qD,mZ,vW,vJ,vz,vd,w6,wX,wC,xX,xY,xM,xt,g5,gm,hk,aK,Ll]
 refine vy s2 fun b6 h3 s3 => ?_
 simp -implicitDefEqProofs only [EE,Nat.reduceAdd,zL]
 refine wx s3 (by simp) rfl fun h4 s4 => ?_
 have g6:=s4.get
 have g5:=(s4.p 1).get
 have gm:=(s4.p 2).get
 unfold xI at gm
 by_cases k1:(zB S 1).k=1
 ·rw [Sn k1]
  simp -implicitDefEqProofs only [EE,zf,Sf,Nat.reduceAdd,ye,zw,yQ,zi,zq,xV,wG,zD,wm,wi,qD,f9,ga,gd,gf,gg,gh,bQ,g5,g6,gm,k1,r0,r1,jX r1,jW r0 r1]
  rw [Ob]
  refine qR (by kernel_rfl) rfl (ZL (X1 (· &&& ·) (zB S 1).n 63) _) ?_
  simp -implicitDefEqProofs only [EE,f8]
  refine qu (by kernel_rfl) rfl (dG (s4.p 2) B.hl r0 r1 i.sub (zB S i.r) (qx (X1 (· &&& ·) (zB S 1).n 63))) ?_
  rintro v h3 ⟨rfl,s3⟩
  simp -implicitDefEqProofs only [EE]
  exact ⟨ev,lk,cl,s3.k [0,3,4,5,6,7,8]⟩
 ·rw [Sl k1]
  simp -implicitDefEqProofs only [EE,zf,Nat.reduceAdd,zw,zi,wm,f8,f9,ga,gd,gf,gg,gh,bQ,g6,k1]
  exact ⟨ev,lk,cl,s4.drop.drop⟩
theorem O5 (s:Sat lo h (Vl p b mb wb wn world lim lv gl S ev lk cl)) (B:Jw lim S) (hk:i.op=13)  :
  DC Tryz.prog 66 [xK b,.pointer (some ⟨q,j,none⟩),i.val] h (fun v h'=>v = .bool (decide ((zB S 0).k=1))/\Zy lo p b mb wb wn world lim lv gl (vZ S 2 (VR (zB S 0))) h'):=by
 apply wu
 unfold uS xK
 simp -implicitDefEqProofs only [EE,Value.cells]
 refine vy s fun b5 h2 s2 => ?_
 have g5:=s2.get
 have gm:=(s2.p 1).get
 unfold xI at gm
 simp -implicitDefEqProofs only [EE,nth,↓yL,Sf,Nat.reduceAdd,Nat.reduceLeDiff,Nat.reduceMul,Int.reduceEq,Int.reduceLT,Int.reduceLE,Int.reduceToNat,ye,zw,zi,vS,zq,xV,zg,qD,mY,uv,vW,vJ,vz,vd,w6,wX,wC,xX,xY,xM,xt,g5,gm,hk,aK,pP]
 refine qR (by kernel_rfl) rfl (HS (zB S 0) _) ?_
 simp -implicitDefEqProofs only [EE,Sf,Nat.reduceAdd,Nat.reduceMul,Int.reduceLT,Int.reduceLE,Int.reduceToNat,zL,xV,qD,mJ]
 refine wx (s2.p 1) (by simp [vP]) rfl fun h3 s3 => ?_
 rw [Lr B.hl (VR (zB S 0))] at s3
 have gm:=s3.get
 unfold xI at gm
 have e0:zB (vZ S 2 (VR (zB S 0))) 0=zB S 0:=OQ (by decide) (by decide) (by decide)
 simp -implicitDefEqProofs only [EE,Sf,Nat.reduceMul,Int.reduceLT,Int.reduceLE,Int.reduceToNat,zw,zi,xV,wm,qD,gm]
 refine ⟨rfl,?_,ev,lk,cl,(s3.p 1).drop⟩
 show Value.bool ((zB (vZ S 2 (VR (zB S 0))) 0).k == 1)=_
 rw [e0]
 rfl
theorem O6 (s:Sat lo h (Vl p b mb wb wn world lim lv gl S ev lk cl)) (B:Jw lim S) (hk:i.op=14) (m0:0<=i.m) (m1:i.m < 16) :
  DC Tryz.prog 66 [xK b,.pointer (some ⟨q,j,none⟩),i.val] h (fun v h'=>v = .bool (ZI S (zB S i.m)).2/\Zy lo p b mb wb wn world lim lv gl (ZI S (zB S i.m)).1 h'):=by
 apply wu
 unfold uS xK
 simp -implicitDefEqProofs only [EE,Value.cells]
 refine vy s fun b5 h2 s2 => ?_
 have g5:=s2.get
 have gm:=(s2.p 1).get
 unfold xI at gm
 simp -implicitDefEqProofs only [EE,nth,↓yL,Sf,Nat.reduceAdd,Int.reduceEq,ye,zw,zi,vS,zq,xV,zg,xJ,qD,mX,uQ,uv,vW,vJ,vz,vd,w6,wX,wC,xX,xY,xM,xt,g5,gm,hk,m0,m1,jX m1,jW m0 m1]
 obtain ⟨lo1,l1,s3,fr⟩:=(s2.f [1,2]).call (L2:=[pt b (xI p lv mb wb S ev lk gl cl lim),Za 80 3 lk (S.lk.map qw)])
 refine qu (by kernel_rfl) rfl (GW (mv:=zB S i.m) s3 B.lk B.hl) ?_
 rintro v h4 ⟨rfl,lk',s4⟩
 have s5:=fr _ _ s4
 simp -implicitDefEqProofs only [EE]
 obtain ⟨e1,e2,e3,e4⟩:=sZ S (zB S i.m)
 refine ⟨ev,lk',cl,?_⟩
 unfold Vl
 rw [e1,e2,e3,e4]
 exact s5.k [0,1,3,4,5,6,7]
theorem O7 (s:Sat lo h (Vl p b mb wb wn world lim lv gl S ev lk cl)) (B:Jw lim S) (hk:i.op=15) (r0:0<=i.r) (r1:i.r < 16) (m0:0<=i.m) (m1:i.m < 16) :
  DC Tryz.prog 66 [xK b,.pointer (some ⟨q,j,none⟩),i.val] h (fun v h'=>v = .bool true/\Zy lo p b mb wb wn world lim lv gl { S with flags:=true,a:=zB S i.r,b:=zB S i.m } h'):=by
 apply wu
 unfold uS xK
 simp -implicitDefEqProofs only [EE,Value.cells]
 refine vy s fun b5 h2 s2 => ?_
 have g5:=s2.get
 have gm:=(s2.p 1).get
 unfold xI at gm
 simp -implicitDefEqProofs only [EE,nth,↓yL,Sf,Nat.reduceAdd,Int.reduceEq,ye,zw,zi,vS,zq,Iu,xV,XM,zg,wG,xJ,qD,mW,u1,uQ,uv,vW,vJ,vz,vd,w6,wX,wC,xX,xY,xM,xt,g5,gm,hk,m0,m1,jX m1,jW m0 m1,r0,r1,jX r1,jW r0 r1]
 refine wx (s2.p 1) (by simp [vP]) rfl fun h3 s3 => ?_
 rw [Dr] at s3
 simp -implicitDefEqProofs only [EE,Nat.reduceAdd,zL,J0]
 refine wx s3 (by simp [vP]) rfl fun h4 s4 => ?_
 rw [Py] at s4
 simp -implicitDefEqProofs only [EE,Nat.reduceAdd,zL,Q4]
 refine wx s4 (by simp [vP]) rfl fun h5 s5 => ?_
 rw [Pz (zB S i.m)] at s5
 simp -implicitDefEqProofs only []
 exact ⟨ev,lk,cl,(s5.p 1).drop⟩
theorem O8 (s:Sat lo h (Vl p b mb wb wn world lim lv gl S ev lk cl)) (B:Jw lim S) (hk:i.op=16) (r0:0<=i.r) (r1:i.r < 16) :
  DC Tryz.prog 66 [xK b,.pointer (some ⟨q,j,none⟩),i.val] h (fun v h'=>v = .bool true/\Zy lo p b mb wb wn world lim lv gl { S with flags:=true,a:=zB S i.r,b:=qx i.k } h'):=by
 apply wu
 unfold uS xK
 simp -implicitDefEqProofs only [EE,Value.cells]
 refine vy s fun b5 h2 s2 => ?_
 have g5:=s2.get
 have gm:=(s2.p 1).get
 unfold xI at gm
 simp -implicitDefEqProofs only [EE,nth,↓yL,Sf,Nat.reduceAdd,Int.reduceEq,ye,zw,yQ,zi,vS,zq,xV,zg,wG,zQ,qD,mV,qh,u1,uQ,uv,vW,vJ,vz,vd,w6,wX,wC,xX,xY,xM,xt,g5,gm,hk,r0,r1,jX r1,jW r0 r1]
 refine qR (by kernel_rfl) rfl (ZL i.k _) ?_
 simp -implicitDefEqProofs only [EE,Iu,XM,mK]
 refine wx (s2.p 1) (by simp [vP]) rfl fun h3 s3 => ?_
 rw [Dr] at s3
 simp -implicitDefEqProofs only [EE,Nat.reduceAdd,zL,J0]
 refine wx s3 (by simp [vP]) rfl fun h4 s4 => ?_
 rw [Py] at s4
 simp -implicitDefEqProofs only [EE,Nat.reduceAdd,zL,Q4]
 refine wx s4 (by simp [vP]) rfl fun h5 s5 => ?_
 rw [Pz (qx i.k)] at s5
 simp -implicitDefEqProofs only []
 exact ⟨ev,lk,cl,(s5.p 1).drop⟩
theorem O9 (s:Sat lo h (Vl p b mb wb wn world lim lv gl S ev lk cl)) (B:Jw lim S) (hk:i.op=17) (r0:0<=i.r) (r1:i.r < 16) :
  DC Tryz.prog 66 [xK b,.pointer (some ⟨q,j,none⟩),i.val] h (fun v h'=>v = .bool (if S.flags=true then (vF S i.r (yu i.cc S.a S.b)) else (S,false)).2/\Zy lo p b mb wb wn world lim lv gl (if S.flags=true then (vF S i.r (yu i.cc S.a S.b)) else (S,false)).1 h'):=by
 apply wu
 unfold uS xK
 simp -implicitDefEqProofs only [EE,Value.cells]
 refine vy s fun b5 h2 s2 => ?_
 have g5:=s2.get
 have gm:=(s2.p 1).get
 unfold xI at gm
 cases hf:S.flags with
 | false=>
   rw [Sl (by decide)]
   simp -implicitDefEqProofs only [EE,nth,↓yL,Sf,Nat.reduceAdd,Int.reduceEq,ye,zw,zi,Bu,vS,XM,zg,bR,bS,bT,bU,bV,bW,bX,cA,qG,qh,u1,uQ,uv,vW,vJ,vz,vd,w6,wX,wC,xX,xY,xM,xt,g5,gm,hk,Dm,hf]
   exact ⟨ev,lk,cl,s2.drop⟩
 | true=>
   rw [Sn rfl]
   simp -implicitDefEqProofs only [EE,nth,↓yL,Sf,Nat.reduceAdd,Nat.reduceLeDiff,Int.reduceEq,ye,zw,zi,Bu,vS,zq,Q4,XM,J0,zg,wG,Up,bR,bS,bT,bU,bV,bW,bX,cA,qG,qh,u1,uQ,uv,vW,vJ,vz,vd,w6,wX,wC,xX,xY,xM,xt,g5,gm,hk,Dm,hf,aK,Ma,Mb]
   refine qu (by kernel_rfl) rfl (dG (s2.p 1) B.hl r0 r1 i.cc S.a S.b) ?_
   rintro v h3 ⟨rfl,s3⟩
   simp -implicitDefEqProofs only [EE]
   exact ⟨ev,lk,cl,(s3.p 1).drop⟩
theorem Pc (s:Sat lo h (Vl p b mb wb wn world lim lv gl S ev lk cl)) (B:Jw lim S) (hk:i.op=20)  :
  DC Tryz.prog 66 [xK b,.pointer (some ⟨q,j,none⟩),i.val] h (fun v h'=>v = .bool true/\Zy lo p b mb wb wn world lim lv gl S h'):=by
 apply wu
 unfold uS xK
 simp -implicitDefEqProofs only [EE,Value.cells]
 refine vy s fun b5 h2 s2 => ?_
 have g5:=s2.get
 have gm:=(s2.p 1).get
 unfold xI at gm
 simp -implicitDefEqProofs only [EE,nth,↓yL,Sf,Nat.reduceAdd,Int.reduceEq,ye,zw,zi,vS,zg,QX,Vz,Y7,Y8,Yu,ZG,j3,jh,qG,qh,u1,uQ,uv,vW,vJ,vz,vd,w6,wX,wC,xX,xY,xM,xt,g5,hk]
 exact ⟨ev,lk,cl,s2.drop⟩
end
section
variable {lo:yV} {h:za} {L:List HP} {b mb wb:Nat} {p:Pg} {S:St} {wn lv gl ev lk cl:Value} {world:List Int} {lim:Int} {i:uF} {c:Fr} {ini:List Fr} {q j cp:Nat}
theorem pD {f:Fn} {n:Nat} (hL:VW p lv h) (hf:p.funcs[n]? = some f) (l:Int):ym lv=false /\ ∃ bb o cs t qm,zA Tryz.prog 103 lv (.int .i64 (n:Nat))=some (.pointer (some ⟨bb,o,none⟩))/\h.get bb=some (.cells cs t)/\cs[o]? = some (.map (some qm))/\Z2 Tryz.prog 129 (.map (some qm)) (.int .i64 l) false h=some (.int .i64 (ZT p n l)):=by
 obtain ⟨ls,S,hlen,hm⟩:=hL
 have hn:n < ls.length:=by
  rw [hlen]
  rcases SC n p.funcs.length with a | a
  ·exact a
  ·rw [Sr a] at hf;cases hf
 have hq:ls[n]? = some ls[n]:=Sk hn
 have hr:(ls.map fun q=>[Value.map (some q)])[n]? = some [.map (some ls[n])]:=by rw [SI,hq];rfl
 refine ⟨S.YR,?_⟩
 obtain ⟨bb,o,cs,t,⟨off,cp,rfl,rfl⟩,hi,hb,hg,hl,ht,hk⟩:=S.spot hr rfl
 have h1:0<=(n:Int)/\(n:Int) < ((ls.map fun q=>[Value.map (some q)]).length:Int):=by omega
 refine ⟨bb,off + n * 1,cs,t,ls[n],by simp only [M7,h1,SJ,and_self,Sf],hg,hk 0 (by decide),?_⟩
 rw [tN (kt:=3) (et:=3) (kind := .i64) (z := .int .i64 0) (by kernel_rfl) (by kernel_rfl) (by kernel_rfl) (hm n _ f hq hf) l false]
 have hp:=iw f.code l 0 0 [] (.inr ⟨rfl,rfl⟩)
 have e:ZT p n l=Jm f.code l 0 0:=by unfold ZT;rw [hf]
 rw [e]
 rcases hp with hp | ⟨hp,hz⟩
 ·rw [hp];rfl
 ·rw [hp,hz];rfl
theorem Dc {X:List HP} (hcl:cl = .slice (some ⟨q,0,none⟩) (ini.length + 1) cp) (hc:S.calls=ini ++ [c]) (s:Sat lo h (Za 134 7 cl (S.calls.map uD) :: X)) (z:Int) {K:za->Prop} (k:∀ h',Sat lo h' (Za 134 7 cl ((ja S { c with pt:=z }).calls.map uD) :: X)->K h'):opt (vf h q (ini.length * 7 + 1) [.int .i64 z]) K:=by
 rw [hc] at s
 refine aP (c':={ c with pt:=z }) s hcl (j:=1) (by simp) rfl rfl fun h' s'=>k h' ?_
 have e:(ja S { c with pt:=z }).calls=ini ++ [{ c with pt:=z }]:=by
  show S.calls.dropLast ++ [_]=_
  rw [hc,T0]
 rw [e]
 exact s'
theorem Pa (s:Sat lo h (Vl p b mb wb wn world lim lv gl S ev lk cl)) (B:Jw lim S) (hk:i.op=18) (hcl:cl = .slice (some ⟨q,0,none⟩) (ini.length + 1) cp) (hc:S.calls=ini ++ [c]) {f:Fn} (hL:Rd lo (VW p lv)) (hf:p.funcs[c.f]? = some f) :
  DC Tryz.prog 66 [xK b,.pointer (some ⟨q,ini.length * 7,none⟩),i.val] h (fun v h'=>v = .bool true/\Zy lo p b mb wb wn world lim lv gl (ja S { c with pt:=ZT p c.f i.l }) h'):=by
 apply wu
 unfold uS xK
 simp -implicitDefEqProofs only [EE,Value.cells]
 refine vy s fun b5 h2 s2 => ?_
 have g5:=s2.get
 have gm:=(s2.p 1).get
 unfold xI at gm
 obtain ⟨ln,bb,o,cs,t,qm,hix,hgt,hat0,hlk⟩:=pD (hL.at s2) hf i.l
 have s2':=s2
 unfold Vl at s2'
 rw [hc] at s2'
 obtain ⟨cs2,gq,wq,ltq,lq,kf,kp,kb,kz,kr⟩:=Wg (s2'.p 4) hcl
 simp -implicitDefEqProofs only [EE,nth,↓yL,Sf,Nat.reduceAdd,Int.reduceEq,ye,zw,Bt,Gq,zi,vS,Wx,gU,gV,VL,zg,vB,mU,jh,qG,qh,u1,uQ,uv,vW,vJ,vz,vd,w6,wX,wC,xX,xY,xM,xt,g5,gm,gq,kf,hk,Nt,hix,hgt,hat0,hlk]
 refine Dc hcl hc (s2.p 4) _ fun h3 s3 => ?_
 simp -implicitDefEqProofs only []
 exact ⟨ev,lk,cl,s3.k [2,3,4,0,5,6,7]⟩
theorem Pb (s:Sat lo h (Vl p b mb wb wn world lim lv gl S ev lk cl)) (B:Jw lim S) (hk:i.op=19) (hcl:cl = .slice (some ⟨q,0,none⟩) (ini.length + 1) cp) (hc:S.calls=ini ++ [c]) {f:Fn} (hL:Rd lo (VW p lv)) (hff:p.funcs[c.f]? = some f) :
  DC Tryz.prog 66 [xK b,.pointer (some ⟨q,ini.length * 7,none⟩),i.val] h (fun v h'=>v = .bool (WH p S c i).2/\Zy lo p b mb wb wn world lim lv gl (WH p S c i).1 h'):=by
 apply wu
 unfold uS xK
 simp -implicitDefEqProofs only [EE,Value.cells]
 refine vy s fun b5 h2 s2 => ?_
 have g5:=s2.get
 have gm:=(s2.p 1).get
 unfold xI at gm
 obtain ⟨ln,bb,o,cs,t,qm,hix,hgt,hat0,hlk⟩:=pD (hL.at s2) hff i.l
 simp -implicitDefEqProofs only [EE,nth,↓yL,Sf,Nat.reduceAdd,Nat.reduceLeDiff,Int.reduceEq,ye,zw,zi,vS,zq,Q4,J0,zg,Up,mT,j3,jh,qG,qh,u1,uQ,uv,vW,vJ,vz,vd,w6,wX,wC,xX,xY,xM,xt,g5,gm,hk,aK,Ma,Mb]
 refine qR (by kernel_rfl) rfl (GL i.cc S.a S.b _) ?_
 rw [xp]
 simp -implicitDefEqProofs only [EE,Value.cells,vG,mN]
 cases hb:yu i.cc S.a S.b with
 | none=>
   have e:WH p S c i=(S,false):=by unfold WH;rw [hb]
   rw [e]
   simp -implicitDefEqProofs only [Option.getD_none,v0]
   refine vy s2 fun b6 h3 s3 => ?_
   simp -implicitDefEqProofs only [EE,Nat.reduceAdd,zL]
   refine wx s3 (by simp) rfl fun h4 s4 => ?_
   simp -implicitDefEqProofs only [EE,QU,QV,QW,Option.isSome_none]
   exact ⟨ev,lk,cl,s4.drop.drop⟩
 | some v=>
   simp -implicitDefEqProofs only [T6]
   refine vy s2 fun b6 h3 s3 => ?_
   simp -implicitDefEqProofs only [EE,Nat.reduceAdd,zL]
   refine wx s3 (by simp) rfl fun h4 s4 => ?_
   have g6:=s4.get
   have g5:=(s4.p 1).get
   have gm:=(s4.p 2).get
   unfold xI at gm
   cases hf:S.flags with
   | false=>
     have e:WH p S c i=(S,false):=by unfold WH;rw [hb];simp only [hf,Ti,Sx]
     rw [e]
     simp -implicitDefEqProofs only [EE,zw,Bu,XM,QU,QV,QW,gm,Dm,hf,Option.isSome_some]
     exact ⟨ev,lk,cl,s4.drop.drop⟩
   | true=>
     have e:WH p S c i=((if v.n=0 then uU S 1 v.n 0 else ja (uU S 1 v.n 0) { c with pt:=ZT p c.f i.l }),true):=by unfold WH;rw [hb];simp only [hf,Sf]
     rw [e]
     simp -implicitDefEqProofs only [EE,zf,Nat.reduceAdd,zw,yQ,Bu,XM,wi,mM,QU,QV,QW,g6,gm,Dm,hf,Option.isSome_some]
     obtain ⟨lo1,l1,s5,fr⟩:=(s4.f [2,3]).call (L2:=[pt b (xI p lv mb wb S ev lk gl cl lim),Za 80 3 lk (S.lk.map qw)])
     refine z7 (by kernel_rfl) rfl (pE s5 B.lk 1 v.n 0) ?_
     rintro r h5 ⟨lk',s6⟩
     have s7:=fr _ _ s6
     have g6:=(s7.p 2).get
     have g5:=(s7.p 3).get
     have gm:=s7.get
     unfold xI at gm
     by_cases hv:v.n=0
     ·rw [Sn hv]
      simp -implicitDefEqProofs only [EE,zf,Nat.reduceAdd,zw,yQ,wi,bY,g6,hv]
      rw [hv] at s7
      exact ⟨ev,lk',cl,s7.k [0,1,4,5,6,7,8]⟩
     ·rw [Sl hv]
      obtain ⟨ln,bb,o,cs,t,qm,hix,hgt,hat0,hlk⟩:=pD (hL.at s7) hff i.l
      have s7':=s7
      rw [hc] at s7'
      obtain ⟨cs2,gq,wq,ltq,lq,kf,kp,kb,kz,kr⟩:=Wg (s7'.p 5) hcl
      simp -implicitDefEqProofs only [EE,zf,Nat.reduceAdd,zw,Bt,Gq,yQ,zi,Wx,gU,gV,VL,vB,wi,mL,bY,g5,g6,gm,gq,kf,hv,Nt,hix,hgt,hat0,hlk]
      refine Dc (S:=uU S 1 v.n 0) hcl hc (s7.p 5) _ fun h3 s3 => ?_
      simp -implicitDefEqProofs only [EE]
      exact ⟨ev,lk',cl,s3.k [1,2,5,0,6,7,8]⟩
theorem gR (lim:Int) (S:St) (f:Nat):(xP lim S f).ev=S.ev/\(xP lim S f).lk=S.lk/\(xP lim S f).used=S.used/\(xP lim S f).mem=S.mem:=by
 unfold xP yM
 by_cases hc:lim - S.stack < 8
 ·rw [Sn hc];exact ⟨rfl,rfl,rfl,rfl⟩
 ·rw [Sl hc];exact ⟨rfl,rfl,rfl,rfl⟩
theorem HM (S:St) (c:Fr):(ZU S c).1.ev=S.ev/\(ZU S c).1.lk=S.lk/\(ZU S c).1.used=S.used/\(ZU S c).1.mem=S.mem:=by
 unfold ZU
 split
 ·exact ⟨rfl,rfl,rfl,rfl⟩
 ·split
  ·exact ⟨rfl,rfl,rfl,rfl⟩
  ·split <;> exact ⟨rfl,rfl,rfl,rfl⟩
theorem hO (lim:Int) (S:St) (c:Fr) (i:uF):(wW lim S c i).1.ev=S.ev/\(wW lim S c i).1.lk=S.lk/\(wW lim S c i).1.used=S.used:=by
 unfold wW yM
 split
 ·split <;> exact ⟨rfl,rfl,rfl⟩
 ·split
  ·exact ⟨rfl,rfl,rfl⟩
  ·by_cases hc:lim - S.stack < i.k
   ·rw [Sn hc];exact ⟨rfl,rfl,rfl⟩
   ·rw [Sl hc];exact ⟨rfl,rfl,rfl⟩
theorem Pd (s:Sat lo h (Vl p b mb wb wn world lim lv gl S ev lk cl)) (B:Jw lim S) (hk:i.op=21) (hs0:0<=i.sub) :
  DC Tryz.prog 66 [xK b,.pointer (some ⟨q,j,none⟩),i.val] h (fun v h'=>v = .bool true/\Zy lo p b mb wb wn world lim lv gl (xP lim (uU { S with flags:=false } 4 i.sub 0) i.sub.toNat) h'):=by
 apply wu
 unfold uS xK
 simp -implicitDefEqProofs only [EE,Value.cells]
 refine vy s fun b5 h2 s2 => ?_
 have g5:=s2.get
 have gm:=(s2.p 1).get
 unfold xI at gm
 obtain ⟨fn,hfn⟩:∃ fn:Nat,i.sub=fn:=⟨i.sub.toNat,by omega⟩
 rw [hfn,SJ]
 simp -implicitDefEqProofs only [EE,nth,↓yL,Sf,Nat.reduceAdd,Int.reduceEq,ye,zw,zi,vS,Iu,XM,zg,mS,ZG,j3,jh,qG,qh,u1,uQ,uv,vW,vJ,vz,vd,w6,wX,wC,xX,xY,xM,xt,g5,hk]
 refine wx (s2.p 1) (by simp [vP]) rfl fun h3 s3 => ?_
 rw [Dr] at s3
 simp -implicitDefEqProofs only [EE,zw,zi,zD]
 have g5:=(s3.p 1).get
 simp -implicitDefEqProofs only [EE,g5,hfn]
 obtain ⟨lo1,l1,s4,fr⟩:=(s3.f [0,2]).call (L2:=[pt b (xI p lv mb wb { S with flags:=false } ev lk gl cl lim),Za 80 3 lk (S.lk.map qw)])
 refine z7 (by kernel_rfl) rfl (pE (S:={ S with flags:=false }) s4 B.lk 4 fn 0) ?_
 rintro r h5 ⟨lk',s6⟩
 have s7:=fr _ _ s6
 have g5:=(s7.p 2).get
 simp -implicitDefEqProofs only [EE,zw,zi,zD,mO,g5,hfn]
 obtain ⟨lo2,l2,s8,fr2⟩:=(s7.f [0,4]).call (L2:=[pt b (xI p lv mb wb (uU { S with flags:=false } 4 fn 0) ev lk' gl cl lim),Za 134 7 cl (S.calls.map uD)])
 refine z7 (by kernel_rfl) rfl (C6 (S:=uU { S with flags:=false } 4 fn 0) s8 ⟨B.Mi.l0,B.Mi.l1,B.Mi.s0,B.Mi.s1⟩ B.cs fn) ?_
 rintro r h9 ⟨cl',s10⟩
 have s11:=fr2 _ _ s10
 simp -implicitDefEqProofs only []
 obtain ⟨e1,e2,e3,e4⟩:=gR lim (uU { S with flags:=false } 4 fn 0) fn
 refine ⟨ev,lk',cl',?_⟩
 unfold Vl
 rw [e1,e2,e3,e4]
 exact s11.k [0,2,4,1,5,6,7]
theorem Pe (s:Sat lo h (Vl p b mb wb wn world lim lv gl S ev lk cl)) (B:Jw lim S) (hk:i.op=22) (hcl:cl = .slice (some ⟨q,0,none⟩) (ini.length + 1) cp) (hc:S.calls=ini ++ [c]) (hn1:ini.length < 4611686018427387900) :
  DC Tryz.prog 66 [xK b,.pointer (some ⟨q,ini.length * 7,none⟩),i.val] h (fun v h'=>v = .bool (ZU S c).2/\Zy lo p b mb wb wn world lim lv gl (ZU S c).1 h'):=by
 apply wu
 unfold uS xK
 simp -implicitDefEqProofs only [EE,Value.cells]
 refine vy s fun b5 h2 s2 => ?_
 have g5:=s2.get
 have gm:=(s2.p 1).get
 unfold xI at gm
 simp -implicitDefEqProofs only [EE,nth,↓yL,Sf,Nat.reduceAdd,Int.reduceEq,ye,zw,zi,vS,zg,Yu,ZG,j3,jh,qG,qh,u1,uQ,uv,vW,vJ,vz,vd,w6,wX,wC,xX,xY,xM,xt,g5,hk]
 refine z7 (by kernel_rfl) rfl (I6 (s2.f [1,4]) hcl hc hn1 B.Mi) ?_
 rintro v h4 ⟨rfl,cl',s4⟩
 simp -implicitDefEqProofs only [EE]
 obtain ⟨e1,e2,e3,e4⟩:=HM S c
 refine ⟨ev,lk,cl',?_⟩
 unfold Vl
 rw [e1,e2,e3,e4]
 exact s4.k [0,3,4,1,5,6,7]
theorem Pf (s:Sat lo h (Vl p b mb wb wn world lim lv gl S ev lk cl)) (B:Jw lim S) (hk:i.op=23) (hcl:cl = .slice (some ⟨q,0,none⟩) (ini.length + 1) cp) (hc:S.calls=ini ++ [c]) (hF:PM c) (k0:0<=i.k) (k1:i.k<=65536) :
  DC Tryz.prog 66 [xK b,.pointer (some ⟨q,ini.length * 7,none⟩),i.val] h (fun v h'=>v = .bool (wW lim S c i).2/\Zy lo p b mb wb wn world lim lv gl (wW lim S c i).1 h'):=by
 apply wu
 unfold uS xK
 simp -implicitDefEqProofs only [EE,Value.cells]
 refine vy s fun b5 h2 s2 => ?_
 have g5:=s2.get
 have gm:=(s2.p 1).get
 unfold xI at gm
 simp -implicitDefEqProofs only [EE,nth,↓yL,Sf,Nat.reduceAdd,Int.reduceEq,ye,zw,zi,vS,zg,Y7,Y8,Yu,ZG,j3,jh,qG,qh,u1,uQ,uv,vW,vJ,vz,vd,w6,wX,wC,xX,xY,xM,xt,g5,hk]
 have ei:i.val = .agg #[.int .i64 23,.int .i64 i.r,.int .i64 i.m,.int .i64 i.sub,.int .i64 i.cc,.int .i64 i.l,.int .i64 i.k]:=by rw [<- hk]
 rw [<- ei]
 obtain ⟨lo1,l1,s3,fr⟩:=(s2.f [1,4,5]).call (L2:=[pt b (xI p lv mb wb S ev lk gl cl lim),Za 134 7 cl (S.calls.map uD),YQ mb S.mem])
 refine z7 (by kernel_rfl) rfl (Da (i:=i) s3 hcl hc B.Mi B.hl B.mem.2 hF.Xf hF.size k0 k1 (by omega)) ?_
 rintro v h4 ⟨rfl,s4⟩
 have s5:=fr _ _ s4
 simp -implicitDefEqProofs only [EE]
 obtain ⟨e1,e2,e3⟩:=hO lim S c i
 refine ⟨ev,lk,cl,?_⟩
 unfold Vl
 rw [e1,e2,e3]
 exact s5.k [0,4,5,1,2,6,7]
theorem Ph (s:Sat lo h (Vl p b mb wb wn world lim lv gl S ev lk cl)) (B:Jw lim S) (hk:i.op=24) (hcl:cl = .slice (some ⟨q,0,none⟩) (ini.length + 1) cp) (hc:S.calls=ini ++ [c]) (hF:PM c) (k0:0<=i.k) (k1:i.k<=65536) :
  DC Tryz.prog 66 [xK b,.pointer (some ⟨q,ini.length * 7,none⟩),i.val] h (fun v h'=>v = .bool (wW lim S c i).2/\Zy lo p b mb wb wn world lim lv gl (wW lim S c i).1 h'):=by
 apply wu
 unfold uS xK
 simp -implicitDefEqProofs only [EE,Value.cells]
 refine vy s fun b5 h2 s2 => ?_
 have g5:=s2.get
 have gm:=(s2.p 1).get
 unfold xI at gm
 simp -implicitDefEqProofs only [EE,nth,↓yL,Sf,Nat.reduceAdd,Int.reduceEq,ye,zw,zi,vS,zg,Y7,Y8,Yu,ZG,j3,jh,qG,qh,u1,uQ,uv,vW,vJ,vz,vd,w6,wX,wC,xX,xY,xM,xt,g5,hk]
 have ei:i.val = .agg #[.int .i64 24,.int .i64 i.r,.int .i64 i.m,.int .i64 i.sub,.int .i64 i.cc,.int .i64 i.l,.int .i64 i.k]:=by rw [<- hk]
 rw [<- ei]
 obtain ⟨lo1,l1,s3,fr⟩:=(s2.f [1,4,5]).call (L2:=[pt b (xI p lv mb wb S ev lk gl cl lim),Za 134 7 cl (S.calls.map uD),YQ mb S.mem])
 refine z7 (by kernel_rfl) rfl (Da (i:=i) s3 hcl hc B.Mi B.hl B.mem.2 hF.Xf hF.size k0 k1 (by omega)) ?_
 rintro v h4 ⟨rfl,s4⟩
 have s5:=fr _ _ s4
 simp -implicitDefEqProofs only [EE]
 obtain ⟨e1,e2,e3⟩:=hO lim S c i
 refine ⟨ev,lk,cl,?_⟩
 unfold Vl
 rw [e1,e2,e3]
 exact s5.k [0,4,5,1,2,6,7]
theorem Pj (s:Sat lo h (Vl p b mb wb wn world lim lv gl S ev lk cl)) (B:Jw lim S) (hk:i.op=25) (hwl:world.length < 4611686018427387904) :
  DC Tryz.prog 66 [xK b,.pointer (some ⟨q,j,none⟩),i.val] h (fun v h'=>v = .bool true/\Zy lo p b mb wb wn world lim lv gl (vZ { jj S 1 (ZZ world S.used) with used:=S.used + 1 } 0 (qx (ZZ world S.used))) h'):=by
 apply wu
 unfold uS xK
 simp -implicitDefEqProofs only [EE,Value.cells]
 refine vy s fun b5 h2 s2 => ?_
 have g5:=s2.get
 have gm:=(s2.p 1).get
 unfold xI at gm
 simp -implicitDefEqProofs only [EE,nth,↓yL,Sf,Nat.reduceAdd,Int.reduceEq,ye,zw,Mt,zi,vS,G4,zg,mR,Vz,Y7,Y8,Yu,ZG,j3,jh,qG,qh,u1,uQ,uv,vW,vJ,vz,vd,w6,wX,wC,xX,xY,xM,xt,g5,gm,hk,Rz]
 obtain ⟨lo1,l1,s3,fr⟩:=(s2.f [6,7]).call (L2:=[pt wb (.cells [wn,.int .i64 S.used] 151),Za 2 1 wn (world.map qX)])
 refine z7 (by kernel_rfl) rfl (No s3 B.used.1 B.used.2 hwl) ?_
 rintro r h2 ⟨rfl,s4⟩
 have s5:=fr _ _ s4
 simp -implicitDefEqProofs only []
 obtain ⟨lo2,l2,s6,fr2⟩:=(s5.f [3,5]).call (L2:=[pt b (xI p lv mb wb S ev lk gl cl lim),Za 85 2 ev (S.ev.map jF)])
 refine z7 (by kernel_rfl) rfl (C8 s6 B.ev 1 (ZZ world S.used)) ?_
 rintro r h5 ⟨ev',s7⟩
 have s8:=fr2 _ _ s7
 simp -implicitDefEqProofs only []
 refine qR (by kernel_rfl) rfl (ZL (ZZ world S.used) _) ?_
 simp -implicitDefEqProofs only [EE,Sf,Nat.reduceAdd,Nat.reduceMul,Int.reduceLT,Int.reduceLE,Int.reduceToNat,zL,xV,qD,mP]
 refine wx s8 (by simp [vP]) rfl fun h9 s9 => ?_
 rw [Lq (S:=jj S 1 (ZZ world S.used)) B.hl (qx (ZZ world S.used))] at s9
 simp -implicitDefEqProofs only []
 exact ⟨ev',lk,cl,s9.k [0,5,1,6,7,2,3]⟩
theorem Pk (s:Sat lo h (Vl p b mb wb wn world lim lv gl S ev lk cl)) (B:Jw lim S) (hk:i.op=26)  :
  DC Tryz.prog 66 [xK b,.pointer (some ⟨q,j,none⟩),i.val] h (fun v h'=>v = .bool (if (zB S 0).k=1 then (jj S 2 (zB S 0).n,true) else (S,false)).2/\Zy lo p b mb wb wn world lim lv gl (if (zB S 0).k=1 then (jj S 2 (zB S 0).n,true) else (S,false)).1 h'):=by
 apply wu
 unfold uS xK
 simp -implicitDefEqProofs only [EE,Value.cells]
 refine vy s fun b5 h2 s2 => ?_
 have g5:=s2.get
 have gm:=(s2.p 1).get
 unfold xI at gm
 have e14:(vx p lv mb wb S ev lk gl cl lim)[14]? = some (.int .i64 (zB S 0).k):=by kernel_rfl
 have e15:(vx p lv mb wb S ev lk gl cl lim)[15]? = some (.int .i64 (zB S 0).n):=by kernel_rfl
 by_cases k1:(zB S 0).k=1
 ·rw [Sn k1]
  simp -implicitDefEqProofs only [EE,nth,↓yL,Sf,Nat.reduceAdd,Nat.reduceMul,Int.reduceEq,Int.reduceLT,Int.reduceLE,Int.reduceToNat,ye,zw,yQ,zi,vS,xV,zg,wm,wi,qD,mQ,bZ,QX,Vz,Y7,Y8,Yu,ZG,j3,jh,qG,qh,u1,uQ,uv,vW,vJ,vz,vd,w6,wX,wC,xX,xY,xM,xt,g5,gm,hk,e14,e15,k1]
  obtain ⟨lo2,l2,s6,fr2⟩:=(s2.f [1,3]).call (L2:=[pt b (xI p lv mb wb S ev lk gl cl lim),Za 85 2 ev (S.ev.map jF)])
  refine z7 (by kernel_rfl) rfl (C8 s6 B.ev 2 (zB S 0).n) ?_
  rintro r h5 ⟨ev',s7⟩
  have s8:=fr2 _ _ s7
  simp -implicitDefEqProofs only []
  exact ⟨ev',lk,cl,s8.k [0,3,1,4,5,6,7]⟩
 ·rw [Sl k1]
  simp -implicitDefEqProofs only [EE,nth,↓yL,Sf,Nat.reduceAdd,Nat.reduceMul,Int.reduceEq,Int.reduceLT,Int.reduceLE,Int.reduceToNat,ye,zw,zi,vS,xV,zg,wm,qD,bZ,QX,Vz,Y7,Y8,Yu,ZG,j3,jh,qG,qh,u1,uQ,uv,vW,vJ,vz,vd,w6,wX,wC,xX,xY,xM,xt,g5,gm,hk,e14,k1]
  exact ⟨ev,lk,cl,s2.drop⟩
end
structure p9 (p:Pg) (i:uF):Prop where
 lo:1<=i.op
 hi:i.op<=26
 r:EZ i.op=true->0<=i.r/\i.r < 16
 m:dZ i.op=true->0<=i.m/\i.m < 16
 sub:i.op=3\/i.op=4->YU i.sub
 Ri:i.op=6->0<=i.sub/\i.sub < p.globals.length
 frame:i.op=23\/i.op=24->0<=i.k/\i.k<=65536
 call:i.op=21->0<=i.sub/\i.sub < p.funcs.length
theorem I0 {p:Pg} {i:uF} {m:List (Int × Value)} (h:UR p.globals i=true) (hh:UQ p.funcs.length m i=true):p9 p i:=by
 unfold UR at h
 simp only [Sm,SZ] at h
 obtain ⟨h1,h2,h3,h4⟩:=h
 unfold WM at h3
 simp only [Sm] at h3
 obtain ⟨h5,h6⟩:=h3
 refine ⟨h1,h2,fun q => ?_,fun q => ?_,fun q => ?_,fun q => ?_,fun q => ?_,fun q => ?_⟩
 ·rw [q] at h5
  simp at h5
  omega
 ·rw [q] at h6
  simp at h6
  omega
 ·unfold xH at h4
  rw [Sn q] at h4
  simp at h4
  obtain ⟨h7,_⟩:=h4
  unfold YU
  omega
 ·unfold xH at h4
  rw [Sl (by omega),Sl (by omega),Sn q] at h4
  simp at h4
  omega
 ·unfold xH at h4
  rw [Sl (by omega),Sl (by omega),Sl (by omega),Sl (by omega),Sl (by omega),Sl (by omega),Sl (by omega),Sl (by omega),Sl (by omega),Sl (by omega),Sl (by omega),Sn q] at h4
  simp at h4
  omega
 ·unfold UQ at hh
  rw [q] at hh
  simp at hh
  omega
section
variable {lo:yV} {h:za} {b mb wb:Nat} {p:Pg} {S:St} {wn lv gl ev lk cl:Value} {world:List Int} {lim:Int} {i:uF} {c:Fr} {ini:List Fr} {q cp:Nat} {f:Fn}
theorem NI (s:Sat lo h (Vl p b mb wb wn world lim lv gl S ev lk cl)) (B:Jw lim S) (hF:PM c) (hcl:cl = .slice (some ⟨q,0,none⟩) (ini.length + 1) cp) (hc:S.calls=ini ++ [c]) (hn1:ini.length < 4611686018427387900) (hwl:world.length < 4611686018427387904) (hg:Rd lo (zE · gl S.gl)) (hgl:S.gl.length=p.globals.length) (hL:Rd lo (VW p lv)) (hf:p.funcs[c.f]? = some f) (G:p9 p i) :
  DC Tryz.prog 66 [xK b,.pointer (some ⟨q,ini.length * 7,none⟩),i.val] h (fun v h'=>v = .bool (zk p lim world S c i).2/\Zy lo p b mb wb wn world lim lv gl (zk p lim world S c i).1 h'):=by
 have hd:i.op=1\/i.op=2\/i.op=3\/i.op=4\/i.op=5\/i.op=6\/i.op=7\/i.op=8\/i.op=9\/i.op=10\/i.op=11\/i.op=12\/i.op=13\/i.op=14\/i.op=15\/i.op=16\/i.op=17\/i.op=18\/i.op=19\/i.op=20\/i.op=21\/i.op=22\/i.op=23\/i.op=24\/i.op=25\/i.op=26:=by have:=G.lo;have:=G.hi;omega
 rcases hd with hk | hk | hk | hk | hk | hk | hk | hk | hk | hk | hk | hk | hk | hk | hk | hk | hk | hk | hk | hk | hk | hk | hk | hk | hk | hk
 ·have e:zk p lim world S c i=(vZ S i.r (zB S i.m),true):=by unfold zk;simp only [hk,Int.reduceEq,SE,SP,SQ,Sf,Sx]
  rw [e]
  exact Ro s B hk (G.r (by rw [hk];rfl)).1 (G.r (by rw [hk];rfl)).2 (G.m (by rw [hk];rfl)).1 (G.m (by rw [hk];rfl)).2
 ·have e:zk p lim world S c i=(vZ S i.r (qx i.k),true):=by unfold zk;simp only [hk,Int.reduceEq,SE,SP,SQ,Sf,Sx]
  rw [e]
  exact Rp s B hk (G.r (by rw [hk];rfl)).1 (G.r (by rw [hk];rfl)).2
 ·have e:zk p lim world S c i=yO S i:=by unfold zk;simp only [hk,Int.reduceEq,SE,SP,SQ,Sf,Sx]
  rw [e]
  exact Rq s B hk (G.r (by rw [hk];rfl)).1 (G.r (by rw [hk];rfl)).2 (G.m (by rw [hk];rfl)).1 (G.m (by rw [hk];rfl)).2 (G.sub (.inl hk))
 ·have e:zk p lim world S c i=yO S i:=by unfold zk;simp only [hk,Int.reduceEq,SE,SP,SQ,Sf,Sx]
  rw [e]
  exact Rr s B hk (G.r (by rw [hk];rfl)).1 (G.r (by rw [hk];rfl)).2 (G.m (by rw [hk];rfl)).1 (G.m (by rw [hk];rfl)).2 (G.sub (.inr hk))
 ·have e:zk p lim world S c i=vF S i.r (yu 11 (zB S i.m) (qx i.k)):=by unfold zk;simp only [hk,Int.reduceEq,SE,SP,SQ,Sf,Sx]
  rw [e]
  exact Rs s B hk (G.r (by rw [hk];rfl)).1 (G.r (by rw [hk];rfl)).2 (G.m (by rw [hk];rfl)).1 (G.m (by rw [hk];rfl)).2
 ·have e:zk p lim world S c i=(vZ S i.r (np (S.gl.getD i.sub.toNat 0) i.k),true):=by unfold zk;simp only [hk,Int.reduceEq,SE,SP,SQ,Sf,Sx]
  rw [e]
  exact Rt s B hk (G.r (by rw [hk];rfl)).1 (G.r (by rw [hk];rfl)).2 (G.Ri hk).1 (by rw [hgl];exact (G.Ri hk).2) hg
 ·have e:zk p lim world S c i=vF S i.r (yu i.sub (zB S i.r) (zB S i.m)):=by unfold zk;simp only [hk,Int.reduceEq,SE,SP,SQ,Sf,Sx]
  rw [e]
  exact Ru s B hk (G.r (by rw [hk];rfl)).1 (G.r (by rw [hk];rfl)).2 (G.m (by rw [hk];rfl)).1 (G.m (by rw [hk];rfl)).2
 ·have e:zk p lim world S c i=vF S i.r (yu i.sub (zB S i.r) (qx i.k)):=by unfold zk;simp only [hk,Int.reduceEq,SE,SP,SQ,Sf,Sx]
  rw [e]
  exact Rv s B hk (G.r (by rw [hk];rfl)).1 (G.r (by rw [hk];rfl)).2
 ·have e:zk p lim world S c i=vF S i.r (eh i.sub (zB S i.r)):=by unfold zk;simp only [hk,Int.reduceEq,SE,SP,SQ,Sf,Sx]
  rw [e]
  exact Rw s B hk (G.r (by rw [hk];rfl)).1 (G.r (by rw [hk];rfl)).2
 ·have e:zk p lim world S c i=vF S i.r (eh i.sub (zB S i.m)):=by unfold zk;simp only [hk,Int.reduceEq,SE,SP,SQ,Sf,Sx]
  rw [e]
  exact O2 s B hk (G.r (by rw [hk];rfl)).1 (G.r (by rw [hk];rfl)).2 (G.m (by rw [hk];rfl)).1 (G.m (by rw [hk];rfl)).2
 ·have e:zk p lim world S c i=vF S i.r (yu i.sub (zB S i.r) (qx i.k)):=by unfold zk;simp only [hk,Int.reduceEq,SE,SP,SQ,Sf,Sx]
  rw [e]
  exact O3 s B hk (G.r (by rw [hk];rfl)).1 (G.r (by rw [hk];rfl)).2
 ·have e:zk p lim world S c i=(if (zB S 1).k=1 then vF S i.r (yu i.sub (zB S i.r) (qx (X1 (· &&& ·) (zB S 1).n 63))) else (S,false)):=by unfold zk;simp only [hk,Int.reduceEq,SE,SP,SQ,Sf,Sx]
  rw [e]
  exact O4 s B hk (G.r (by rw [hk];rfl)).1 (G.r (by rw [hk];rfl)).2
 ·have e:zk p lim world S c i=(vZ S 2 (VR (zB S 0)),decide ((zB S 0).k=1)):=by unfold zk;simp only [hk,Int.reduceEq,SE,SP,SQ,Sf,Sx]
  rw [e]
  exact O5 s B hk
 ·have e:zk p lim world S c i=ZI S (zB S i.m):=by unfold zk;simp only [hk,Int.reduceEq,SE,SP,SQ,Sf,Sx]
  rw [e]
  exact O6 s B hk (G.m (by rw [hk];rfl)).1 (G.m (by rw [hk];rfl)).2
 ·have e:zk p lim world S c i=({ S with flags:=true,a:=zB S i.r,b:=zB S i.m },true):=by unfold zk;simp only [hk,Int.reduceEq,SE,SP,SQ,Sf,Sx]
  rw [e]
  exact O7 s B hk (G.r (by rw [hk];rfl)).1 (G.r (by rw [hk];rfl)).2 (G.m (by rw [hk];rfl)).1 (G.m (by rw [hk];rfl)).2
 ·have e:zk p lim world S c i=({ S with flags:=true,a:=zB S i.r,b:=qx i.k },true):=by unfold zk;simp only [hk,Int.reduceEq,SE,SP,SQ,Sf,Sx]
  rw [e]
  exact O8 s B hk (G.r (by rw [hk];rfl)).1 (G.r (by rw [hk];rfl)).2
 ·have e:zk p lim world S c i=(if S.flags=true then vF S i.r (yu i.cc S.a S.b) else (S,false)):=by unfold zk;simp only [hk,Int.reduceEq,SE,SP,SQ,Sf,Sx]
  rw [e]
  exact O9 s B hk (G.r (by rw [hk];rfl)).1 (G.r (by rw [hk];rfl)).2
 ·have e:zk p lim world S c i=(ja S { c with pt:=ZT p c.f i.l },true):=by unfold zk;simp only [hk,Int.reduceEq,SE,SP,SQ,Sf,Sx]
  rw [e]
  exact Pa s B hk hcl hc hL hf
 ·have e:zk p lim world S c i=WH p S c i:=by unfold zk;simp only [hk,Int.reduceEq,SE,SP,SQ,Sf,Sx]
  rw [e]
  exact Pb s B hk hcl hc hL hf
 ·have e:zk p lim world S c i=(S,true):=by unfold zk;simp only [hk,Int.reduceEq,SE,SP,SQ,Sf,Sx]
  rw [e]
  exact Pc s B hk
 ·have e:zk p lim world S c i=(xP lim (uU { S with flags:=false } 4 i.sub 0) i.sub.toNat,true):=by unfold zk;simp only [hk,Int.reduceEq,SE,SP,SQ,Sf,Sx]
  rw [e]
  exact Pd s B hk (G.call hk).1
 ·have e:zk p lim world S c i=ZU S c:=by unfold zk;simp only [hk,Int.reduceEq,SE,SP,SQ,Sf,Sx]
  rw [e]
  exact Pe s B hk hcl hc hn1
 ·have e:zk p lim world S c i=wW lim S c i:=by unfold zk;simp only [hk,Int.reduceEq,SE,SP,SQ,Sf,Sx]
  rw [e]
  exact Pf s B hk hcl hc hF (G.frame (.inl hk)).1 (G.frame (.inl hk)).2
 ·have e:zk p lim world S c i=wW lim S c i:=by unfold zk;simp only [hk,Int.reduceEq,SE,SP,SQ,Sf,Sx]
  rw [e]
  exact Ph s B hk hcl hc hF (G.frame (.inr hk)).1 (G.frame (.inr hk)).2
 ·have e:zk p lim world S c i=(vZ { jj S 1 (ZZ world S.used) with used:=S.used + 1 } 0 (qx (ZZ world S.used)),true):=by unfold zk;simp only [hk,Int.reduceEq,SE,SP,SQ,Sf,Sx]
  rw [e]
  exact Pj s B hk hwl
 ·have e:zk p lim world S c i=(if (zB S 0).k=1 then (jj S 2 (zB S 0).n,true) else (S,false)):=by unfold zk;simp only [hk,Int.reduceEq,SE,SP,SQ,Sf,Sx]
  rw [e]
  exact Pk s B hk
end
structure DB (p:Pg) (c:Fr):Prop where
 Xf:YU c.Xf
 size:0<=c.size/\c.size<=65536
 iT:vb c.iT
 at_:∃ f,p.funcs[c.f]? = some f/\0<=c.pt/\c.pt<=f.code.length
structure ZS (p:Pg) (lim n:Int) (S:St):Prop where
 n0:0<=n
 hl:S.YV.length=16
 hv:∀ r,vb (zB S r)
 va:vb S.a
 p7:vb S.b
 fr:∀ c,c ∈ S.calls->DB p c
 l0:0<=lim
 l1:lim < 4294967296
 s0 : -(65536 * n)<=S.stack
 s1:S.stack<=lim
 lk:(S.lk.length:Int)<=n
 ev:(S.ev.length:Int)<=n
 cs:(S.calls.length:Int)<=n + 1
 used:0<=S.used/\S.used<=n
 mem:Jf S.mem
 gl:∀ z,z ∈ S.gl->YU z
 ij:S.gl.length=p.globals.length
theorem RM {o:Option V} (h:∀ v,o=some v->vb v):vb (o.getD v0):=by
 cases o with
 | none=>exact aQ
 | some v=>exact h v rfl
section
variable {p:Pg} {lim n:Int} {S:St} {c:Fr} {i:uF} {ini:List Fr}
theorem ZS.up (I:ZS p lim n S):ZS p lim (n + 1) S :=
 ⟨by have:=I.n0;omega,I.hl,I.hv,I.va,I.p7,I.fr,I.l0,I.l1,by have:=I.s0;omega,I.s1,by have:=I.lk;omega,by have:=I.ev;omega,by have:=I.cs;omega,⟨I.used.1,by have:=I.used.2;omega⟩,I.mem,I.gl,I.ij⟩
theorem ZS.set (I:ZS p lim n S) {v:V} (r:Int) (hv:vb v):ZS p lim n (vZ S r v):=by
 refine ⟨I.n0,by unfold vZ;rw [<- I.hl];exact TD ..,fun r' => ?_,I.va,I.p7,I.fr,I.l0,I.l1,I.s0,I.s1,I.lk,I.ev,I.cs,I.used,I.mem,I.gl,I.ij⟩
 unfold zB vZ
 unfold BV
 split
 ·exact aQ
 ·show vb ((S.YV.set r.toNat v).getD r'.toNat v0)
  rw [SU,List.getElem?_set]
  split
  ·split
   ·exact hv
   ·exact aQ
  ·have:=I.hv r'
   unfold zB BV at this
   rw [Sl (by assumption),SU] at this
   exact this
theorem ZS.res (I:ZS p lim n S) {o:Option V} (r:Int) (h:∀ v,o=some v->vb v):ZS p lim n (vF S r o).1:=I.set r (RM h)
theorem ZS.top (I:ZS p lim n S) (hne:S.calls ≠ []) (h:DB p c):ZS p lim n (ja S c):=by
 have hpos:0 < S.calls.length:=List.length_pos_iff.2 hne
 refine ⟨I.n0,I.hl,I.hv,I.va,I.p7,fun d hd => ?_,I.l0,I.l1,I.s0,I.s1,I.lk,I.ev,?_,I.used,I.mem,I.gl,I.ij⟩
 ·rcases Ta.1 hd with q | q
  ·exact I.fr d (List.dropLast_subset _ q)
  ·simp only [TI] at q;subst q;exact h
 ·show ((S.calls.dropLast ++ [c]).length:Int)<=n + 1
  have:=I.cs
  simp only [aao,List.length_dropLast,List.length_singleton]
  omega
theorem ZS.B4 (I:ZS p lim n S) (k a b:Int):ZS p lim (n + 1) (uU S k a b) :=
 ⟨I.up.n0,I.hl,I.hv,I.va,I.p7,I.fr,I.l0,I.l1,I.up.s0,I.s1,by show ((S.lk ++ [(k,a,b)]).length:Int)<=n + 1;have:=I.lk;simp;omega,I.up.ev,I.up.cs,I.up.used,I.mem,I.gl,I.ij⟩
theorem ZS.event (I:ZS p lim n S) (k a:Int):ZS p lim (n + 1) (jj S k a) :=
 ⟨I.up.n0,I.hl,I.hv,I.va,I.p7,I.fr,I.l0,I.l1,I.up.s0,I.s1,I.up.lk,by show ((S.ev ++ [(k,a)]).length:Int)<=n + 1;have:=I.ev;simp;omega,I.up.cs,I.up.used,I.mem,I.gl,I.ij⟩
theorem ZS.grow (I:ZS p lim n S) {k:Int} (h:0<=k):ZS p lim n (yM lim S k).1:=by
 unfold yM
 split
 ·exact ⟨I.n0,I.hl,I.hv,I.va,I.p7,I.fr,I.l0,I.l1,I.s0,I.s1,I.lk,I.ev,I.cs,I.used,I.mem,I.gl,I.ij⟩
 ·exact ⟨I.n0,I.hl,I.hv,I.va,I.p7,I.fr,I.l0,I.l1,by have:=I.s0;show _<=S.stack + k;omega,by show S.stack + k<=lim;omega,I.lk,I.ev,I.cs,I.used,I.mem,I.gl,I.ij⟩
theorem Ut (lim:Int) (S:St) (k:Int):(yM lim S k).1.calls=S.calls/\(yM lim S k).1.mem=S.mem:=by unfold yM;split <;> exact ⟨rfl,rfl⟩
theorem ZS.enter (I:ZS p lim n S) {f:Nat} {g:Fn} (hf:p.funcs[f]? = some g) (hcs:(S.calls.length:Int)<=n):ZS p lim n (xP lim S f):=by
 have G:=I.grow (k:=8) (by decide)
 unfold xP
 split
 ·refine ⟨G.n0,G.hl,G.hv,G.va,G.p7,fun d hd => ?_,G.l0,G.l1,G.s0,G.s1,G.lk,G.ev,?_,G.used,G.mem,G.gl,G.ij⟩
  ·rcases Ta.1 hd with q | q
   ·exact G.fr d q
   ·simp only [TI] at q;subst q
    exact ⟨Vq,⟨T5 0,by show (0:Int)<=65536;decide⟩,aQ,g,hf,T5 0,Int.natCast_nonneg _⟩
  ·show (((yM lim S 8).1.calls ++ [_]).length:Int)<=n + 1
   rw [(Ut lim S 8).1]
   simp only [aao,List.length_singleton]
   omega
 ·exact G
theorem ZS.access (I:ZS p lim n S) (i:uF):ZS p lim (n + 1) (yO S i).1:=by
 unfold yO
 split
 ·exact I.up
 ·rename_i q hq
  split
  ·split
   ·split
    ·exact I.B4 2 q.b q.n
    ·rename_i M hM
     have L:=I.B4 2 q.b q.n
     exact ⟨L.n0,L.hl,L.hv,L.va,L.p7,L.fr,L.l0,L.l1,L.s0,L.s1,L.lk,L.ev,L.cs,L.used,B9 I.mem (I.hv i.r) hM,L.gl,L.ij⟩
   ·exact (I.B4 2 q.b q.n).res i.r fun v e=>EU I.mem e
  ·exact I.up
theorem ZS.div (I:ZS p lim n S) {m:V} (hm:vb m):ZS p lim (n + 1) (ZI S m).1:=by
 unfold ZI
 split
 ·have L:=I.B4 3 (zB S 0).n m.n
  have h1:∀ o,∀ v,yu o (zB S 0) m=some v->vb v:=fun o v e=>Qy (I.hv 0) hm e
  split
  ·split
   ·exact (L.res 0 (h1 14)).res 2 (h1 15)
   ·exact L.res 0 (h1 14)
  ·exact L
 ·exact I.up
theorem ZS.ret (I:ZS p lim n S) (c:Fr):ZS p lim (n + 1) (ZU S c).1:=by
 have D:∀ (k e:Int),ZS p lim (n + 1) { S with flags:=false,stack:=S.stack - 8,calls:=S.calls.dropLast,kind:=k,exit:=e }:=fun k e=>by
  refine ⟨I.up.n0,I.hl,I.hv,I.va,I.p7,fun d hd=>I.fr d (List.dropLast_subset _ hd),I.l0,I.l1,by have:=I.s0;show _<=S.stack - 8;omega,by have:=I.s1;show S.stack - 8<=lim;omega,I.up.lk,I.up.ev,?_,I.up.used,I.mem,I.gl,I.ij⟩
  show ((S.calls.dropLast).length:Int)<=_
  have:=I.cs
  rw [List.length_dropLast];omega
 unfold ZU
 split
 ·exact I.up
 ·split
  ·exact D S.kind S.exit
  ·rename_i h2
   have e:S.calls.dropLast = []:=by
    cases h:S.calls.dropLast with
    | nil=>rfl
    | cons a l=>exact absurd h (fun q=>h2 (by rw [q];simp))
   split
   ·have:=D 1 (zB S 0).n;rw [e] at this;exact this
   ·have:=D S.kind S.exit;rw [e] at this;exact this
theorem ZS.frame (I:ZS p lim n S) (hne:S.calls ≠ []) (hc:DB p c) {i:uF} (k0:0<=i.k) (k1:i.k<=65536):ZS p lim (n + 1) (wW lim S c i).1:=by
 unfold wW
 split
 ·split
  ·exact I.up
  ·refine ZS.top (c:={ c with Xf:=0 }) ?_ hne ⟨Vq,hc.size,hc.iT,hc.at_⟩
   refine ZS.set ?_ 4 hc.iT
   have hs:=hc.size
   refine ⟨I.up.n0,I.hl,I.hv,I.va,I.p7,I.fr,I.l0,I.l1,by have:=I.s0;show _<=S.stack - c.size;omega,by have:=I.s1;show S.stack - c.size<=lim;omega,I.up.lk,I.up.ev,I.up.cs,I.up.used,ET I.mem,I.gl,I.ij⟩
 ·split
  ·exact I.up
  ·have G:=I.up.grow k0
   have ha:=Jg i.k I.mem
   split
   ·refine ZS.top (c:={ c with Xf:=(w8 S.mem i.k).2.1,size:=i.k,iT:=zB S 4 }) ?_ (by show (yM lim S i.k).1.calls ≠ [];rw [(Ut lim S i.k).1];exact hne) ⟨ha.2,⟨k0,k1⟩,I.hv 4,hc.at_⟩
    refine ZS.set ?_ 4 (Ap ha.2)
    exact ⟨G.n0,G.hl,G.hv,G.va,G.p7,G.fr,G.l0,G.l1,G.s0,G.s1,G.lk,G.ev,G.cs,G.used,ha.1,G.gl,G.ij⟩
   ·exact G
theorem t7:∀ (xs:List uF) (l k z m:Int),0<=k->m=k + xs.length->0<=z->z<=m->0<=Jm xs l k z/\Jm xs l k z<=m
 | [],l,k,z,m,_,_,h0,h1=>⟨h0,h1⟩
 | x :: xs,l,k,z,m,hk,hm,h0,h1=>by
   have hm:m=k + ((xs.length + 1:Nat):Int):=hm
   refine t7 xs l (k + 1) _ m (by omega) (by omega) ?_ ?_
   ·split <;> omega
   ·split <;> omega
theorem DB.yU (h:DB p c) (l:Int):DB p { c with pt:=ZT p c.f l }:=by
 obtain ⟨f,hf,_,_⟩:=h.at_
 refine ⟨h.Xf,h.size,h.iT,f,hf,?_⟩
 have e:ZT p c.f l=Jm f.code l 0 0:=by unfold ZT;rw [hf]
 show 0<=ZT p c.f l/\ZT p c.f l<=f.code.length
 rw [e]
 exact t7 f.code l 0 0 _ (by decide) (by omega) (by decide) (Int.natCast_nonneg _)
theorem ZS.R5 (I:ZS p lim n S) (hne:S.calls ≠ []) (hc:DB p c) (i:uF):ZS p lim (n + 1) (WH p S c i).1:=by
 unfold WH
 split
 ·exact I.up
 ·rename_i v hv
  split
  ·show ZS p lim (n + 1) (if v.n=0 then _ else _)
   split
   ·exact I.B4 1 v.n 0
   ·exact (I.B4 1 v.n 0).top hne (hc.yU i.l)
  ·exact I.up
theorem ZS.flag (I:ZS p lim n S) (f:Bool) {a b:V} (ha:vb a) (hb:vb b):ZS p lim n { S with flags:=f,a:=a,b:=b } :=
 ⟨I.n0,I.hl,I.hv,ha,hb,I.fr,I.l0,I.l1,I.s0,I.s1,I.lk,I.ev,I.cs,I.used,I.mem,I.gl,I.ij⟩
theorem NH (I:ZS p lim n S) (world:List Int) (hne:S.calls ≠ []) (hc:DB p c) (hcs:(S.calls.length:Int)<=n + 1) (G:p9 p i):ZS p lim (n + 1) (zk p lim world S c i).1:=by
 have hd:i.op=1\/i.op=2\/i.op=3\/i.op=4\/i.op=5\/i.op=6\/i.op=7\/i.op=8\/i.op=9\/i.op=10\/i.op=11\/i.op=12\/i.op=13\/i.op=14\/i.op=15\/i.op=16\/i.op=17\/i.op=18\/i.op=19\/i.op=20\/i.op=21\/i.op=22\/i.op=23\/i.op=24\/i.op=25\/i.op=26:=by have:=G.lo;have:=G.hi;omega
 rcases hd with hk | hk | hk | hk | hk | hk | hk | hk | hk | hk | hk | hk | hk | hk | hk | hk | hk | hk | hk | hk | hk | hk | hk | hk | hk | hk
 ·have e:zk p lim world S c i=(vZ S i.r (zB S i.m),true):=by unfold zk;simp only [hk,Int.reduceEq,SE,SP,SQ,Sf,Sx]
  rw [e]
  exact I.up.set _ (I.hv _)
 ·have e:zk p lim world S c i=(vZ S i.r (qx i.k),true):=by unfold zk;simp only [hk,Int.reduceEq,SE,SP,SQ,Sf,Sx]
  rw [e]
  exact I.up.set _ (UO _)
 ·have e:zk p lim world S c i=yO S i:=by unfold zk;simp only [hk,Int.reduceEq,SE,SP,SQ,Sf,Sx]
  rw [e]
  exact I.access i
 ·have e:zk p lim world S c i=yO S i:=by unfold zk;simp only [hk,Int.reduceEq,SE,SP,SQ,Sf,Sx]
  rw [e]
  exact I.access i
 ·have e:zk p lim world S c i=vF S i.r (yu 11 (zB S i.m) (qx i.k)):=by unfold zk;simp only [hk,Int.reduceEq,SE,SP,SQ,Sf,Sx]
  rw [e]
  exact I.up.res _ (fun v e=>Qy (I.hv _) (UO _) e)
 ·have e:zk p lim world S c i=(vZ S i.r (np (S.gl.getD i.sub.toNat 0) i.k),true):=by unfold zk;simp only [hk,Int.reduceEq,SE,SP,SQ,Sf,Sx]
  rw [e]
  refine I.up.set _ (Ap ?_)
  have s0:=G.Ri hk
  rw [SU,Sk (by rw [I.ij];omega)]
  exact I.gl _ (List.getElem_mem _)
 ·have e:zk p lim world S c i=vF S i.r (yu i.sub (zB S i.r) (zB S i.m)):=by unfold zk;simp only [hk,Int.reduceEq,SE,SP,SQ,Sf,Sx]
  rw [e]
  exact I.up.res _ (fun v e=>Qy (I.hv _) (I.hv _) e)
 ·have e:zk p lim world S c i=vF S i.r (yu i.sub (zB S i.r) (qx i.k)):=by unfold zk;simp only [hk,Int.reduceEq,SE,SP,SQ,Sf,Sx]
  rw [e]
  exact I.up.res _ (fun v e=>Qy (I.hv _) (UO _) e)
 ·have e:zk p lim world S c i=vF S i.r (eh i.sub (zB S i.r)):=by unfold zk;simp only [hk,Int.reduceEq,SE,SP,SQ,Sf,Sx]
  rw [e]
  exact I.up.res _ (fun v e=>Mm e)
 ·have e:zk p lim world S c i=vF S i.r (eh i.sub (zB S i.m)):=by unfold zk;simp only [hk,Int.reduceEq,SE,SP,SQ,Sf,Sx]
  rw [e]
  exact I.up.res _ (fun v e=>Mm e)
 ·have e:zk p lim world S c i=vF S i.r (yu i.sub (zB S i.r) (qx i.k)):=by unfold zk;simp only [hk,Int.reduceEq,SE,SP,SQ,Sf,Sx]
  rw [e]
  exact I.up.res _ (fun v e=>Qy (I.hv _) (UO _) e)
 ·have e:zk p lim world S c i=(if (zB S 1).k=1 then vF S i.r (yu i.sub (zB S i.r) (qx (X1 (· &&& ·) (zB S 1).n 63))) else (S,false)):=by unfold zk;simp only [hk,Int.reduceEq,SE,SP,SQ,Sf,Sx]
  rw [e]
  split
  ·exact I.up.res _ (fun v e=>Qy (I.hv _) (UO _) e)
  ·exact I.up
 ·have e:zk p lim world S c i=(vZ S 2 (VR (zB S 0)),decide ((zB S 0).k=1)):=by unfold zk;simp only [hk,Int.reduceEq,SE,SP,SQ,Sf,Sx]
  rw [e]
  exact I.up.set _ (UO _)
 ·have e:zk p lim world S c i=ZI S (zB S i.m):=by unfold zk;simp only [hk,Int.reduceEq,SE,SP,SQ,Sf,Sx]
  rw [e]
  exact I.div (I.hv _)
 ·have e:zk p lim world S c i=({ S with flags:=true,a:=zB S i.r,b:=zB S i.m },true):=by unfold zk;simp only [hk,Int.reduceEq,SE,SP,SQ,Sf,Sx]
  rw [e]
  exact I.up.flag true (I.hv _) (I.hv _)
 ·have e:zk p lim world S c i=({ S with flags:=true,a:=zB S i.r,b:=qx i.k },true):=by unfold zk;simp only [hk,Int.reduceEq,SE,SP,SQ,Sf,Sx]
  rw [e]
  exact I.up.flag true (I.hv _) (UO _)
 ·have e:zk p lim world S c i=(if S.flags=true then vF S i.r (yu i.cc S.a S.b) else (S,false)):=by unfold zk;simp only [hk,Int.reduceEq,SE,SP,SQ,Sf,Sx]
  rw [e]
  split
  ·exact I.up.res _ (fun v e=>Qy I.va I.p7 e)
  ·exact I.up
 ·have e:zk p lim world S c i=(ja S { c with pt:=ZT p c.f i.l },true):=by unfold zk;simp only [hk,Int.reduceEq,SE,SP,SQ,Sf,Sx]
  rw [e]
  exact I.up.top hne (hc.yU _)
 ·have e:zk p lim world S c i=WH p S c i:=by unfold zk;simp only [hk,Int.reduceEq,SE,SP,SQ,Sf,Sx]
  rw [e]
  exact I.R5 hne hc i
 ·have e:zk p lim world S c i=(S,true):=by unfold zk;simp only [hk,Int.reduceEq,SE,SP,SQ,Sf,Sx]
  rw [e]
  exact I.up
 ·have e:zk p lim world S c i=(xP lim (uU { S with flags:=false } 4 i.sub 0) i.sub.toNat,true):=by unfold zk;simp only [hk,Int.reduceEq,SE,SP,SQ,Sf,Sx]
  rw [e]
  obtain ⟨g,hg⟩:∃ g,p.funcs[i.sub.toNat]? = some g:=⟨_,Sk (by have:=G.call hk;omega)⟩
  exact ((I.flag false I.va I.p7).B4 4 i.sub 0).enter hg hcs
 ·have e:zk p lim world S c i=ZU S c:=by unfold zk;simp only [hk,Int.reduceEq,SE,SP,SQ,Sf,Sx]
  rw [e]
  exact I.ret c
 ·have e:zk p lim world S c i=wW lim S c i:=by unfold zk;simp only [hk,Int.reduceEq,SE,SP,SQ,Sf,Sx]
  rw [e]
  exact I.frame hne hc (G.frame (.inl hk)).1 (G.frame (.inl hk)).2
 ·have e:zk p lim world S c i=wW lim S c i:=by unfold zk;simp only [hk,Int.reduceEq,SE,SP,SQ,Sf,Sx]
  rw [e]
  exact I.frame hne hc (G.frame (.inr hk)).1 (G.frame (.inr hk)).2
 ·have e:zk p lim world S c i=(vZ { jj S 1 (ZZ world S.used) with used:=S.used + 1 } 0 (qx (ZZ world S.used)),true):=by unfold zk;simp only [hk,Int.reduceEq,SE,SP,SQ,Sf,Sx]
  rw [e]
  have E:=I.event 1 (ZZ world S.used)
  exact ZS.set (S:={ jj S 1 (ZZ world S.used) with used:=S.used + 1 }) ⟨E.n0,E.hl,E.hv,E.va,E.p7,E.fr,E.l0,E.l1,E.s0,E.s1,E.lk,E.ev,E.cs,⟨by have:=I.used;show 0<=S.used + 1;omega,by have:=I.used;show S.used + 1<=n + 1;omega⟩,E.mem,E.gl,E.ij⟩ 0 (UO _)
 ·have e:zk p lim world S c i=(if (zB S 0).k=1 then (jj S 2 (zB S 0).n,true) else (S,false)):=by unfold zk;simp only [hk,Int.reduceEq,SE,SP,SQ,Sf,Sx]
  rw [e]
  split
  ·exact I.event 2 _
  ·exact I.up
theorem Jq (S:St) (c:Fr):(ja S c).calls ≠ []:=by unfold ja;simp
theorem Lw {world:List Int} (hne:S.calls ≠ []) (G:p9 p i) (h1:(zk p lim world S c i).2=true) (h2:(zk p lim world S c i).1.kind=0):(zk p lim world S c i).1.calls ≠ []:=by
 have hd:i.op=1\/i.op=2\/i.op=3\/i.op=4\/i.op=5\/i.op=6\/i.op=7\/i.op=8\/i.op=9\/i.op=10\/i.op=11\/i.op=12\/i.op=13\/i.op=14\/i.op=15\/i.op=16\/i.op=17\/i.op=18\/i.op=19\/i.op=20\/i.op=21\/i.op=22\/i.op=23\/i.op=24\/i.op=25\/i.op=26:=by have:=G.lo;have:=G.hi;omega
 rcases hd with hk | hk | hk | hk | hk | hk | hk | hk | hk | hk | hk | hk | hk | hk | hk | hk | hk | hk | hk | hk | hk | hk | hk | hk | hk | hk
 ·have e:zk p lim world S c i=(vZ S i.r (zB S i.m),true):=by unfold zk;simp only [hk,Int.reduceEq,SE,SP,SQ,Sf,Sx]
  rw [e]
  exact hne
 ·have e:zk p lim world S c i=(vZ S i.r (qx i.k),true):=by unfold zk;simp only [hk,Int.reduceEq,SE,SP,SQ,Sf,Sx]
  rw [e]
  exact hne
 ·have e:zk p lim world S c i=yO S i:=by unfold zk;simp only [hk,Int.reduceEq,SE,SP,SQ,Sf,Sx]
  rw [e]
  rw [(W2 S i).2.1];exact hne
 ·have e:zk p lim world S c i=yO S i:=by unfold zk;simp only [hk,Int.reduceEq,SE,SP,SQ,Sf,Sx]
  rw [e]
  rw [(W2 S i).2.1];exact hne
 ·have e:zk p lim world S c i=vF S i.r (yu 11 (zB S i.m) (qx i.k)):=by unfold zk;simp only [hk,Int.reduceEq,SE,SP,SQ,Sf,Sx]
  rw [e]
  exact hne
 ·have e:zk p lim world S c i=(vZ S i.r (np (S.gl.getD i.sub.toNat 0) i.k),true):=by unfold zk;simp only [hk,Int.reduceEq,SE,SP,SQ,Sf,Sx]
  rw [e]
  exact hne
 ·have e:zk p lim world S c i=vF S i.r (yu i.sub (zB S i.r) (zB S i.m)):=by unfold zk;simp only [hk,Int.reduceEq,SE,SP,SQ,Sf,Sx]
  rw [e]
  exact hne
 ·have e:zk p lim world S c i=vF S i.r (yu i.sub (zB S i.r) (qx i.k)):=by unfold zk;simp only [hk,Int.reduceEq,SE,SP,SQ,Sf,Sx]
  rw [e]
  exact hne
 ·have e:zk p lim world S c i=vF S i.r (eh i.sub (zB S i.r)):=by unfold zk;simp only [hk,Int.reduceEq,SE,SP,SQ,Sf,Sx]
  rw [e]
  exact hne
 ·have e:zk p lim world S c i=vF S i.r (eh i.sub (zB S i.m)):=by unfold zk;simp only [hk,Int.reduceEq,SE,SP,SQ,Sf,Sx]
  rw [e]
  exact hne
 ·have e:zk p lim world S c i=vF S i.r (yu i.sub (zB S i.r) (qx i.k)):=by unfold zk;simp only [hk,Int.reduceEq,SE,SP,SQ,Sf,Sx]
  rw [e]
  exact hne
 ·have e:zk p lim world S c i=(if (zB S 1).k=1 then vF S i.r (yu i.sub (zB S i.r) (qx (X1 (· &&& ·) (zB S 1).n 63))) else (S,false)):=by unfold zk;simp only [hk,Int.reduceEq,SE,SP,SQ,Sf,Sx]
  rw [e]
  split <;> exact hne
 ·have e:zk p lim world S c i=(vZ S 2 (VR (zB S 0)),decide ((zB S 0).k=1)):=by unfold zk;simp only [hk,Int.reduceEq,SE,SP,SQ,Sf,Sx]
  rw [e]
  exact hne
 ·have e:zk p lim world S c i=ZI S (zB S i.m):=by unfold zk;simp only [hk,Int.reduceEq,SE,SP,SQ,Sf,Sx]
  rw [e]
  rw [(sZ S _).2.1];exact hne
 ·have e:zk p lim world S c i=({ S with flags:=true,a:=zB S i.r,b:=zB S i.m },true):=by unfold zk;simp only [hk,Int.reduceEq,SE,SP,SQ,Sf,Sx]
  rw [e]
  exact hne
 ·have e:zk p lim world S c i=({ S with flags:=true,a:=zB S i.r,b:=qx i.k },true):=by unfold zk;simp only [hk,Int.reduceEq,SE,SP,SQ,Sf,Sx]
  rw [e]
  exact hne
 ·have e:zk p lim world S c i=(if S.flags=true then vF S i.r (yu i.cc S.a S.b) else (S,false)):=by unfold zk;simp only [hk,Int.reduceEq,SE,SP,SQ,Sf,Sx]
  rw [e]
  split <;> exact hne
 ·have e:zk p lim world S c i=(ja S { c with pt:=ZT p c.f i.l },true):=by unfold zk;simp only [hk,Int.reduceEq,SE,SP,SQ,Sf,Sx]
  rw [e]
  exact Jq S _
 ·have e:zk p lim world S c i=WH p S c i:=by unfold zk;simp only [hk,Int.reduceEq,SE,SP,SQ,Sf,Sx]
  rw [e]
  unfold WH
  split
  ·exact hne
  ·split
   ·show (if _=0 then _ else _:St).calls ≠ []
    split
    ·exact hne
    ·exact Jq _ _
   ·exact hne
 ·have e:zk p lim world S c i=(S,true):=by unfold zk;simp only [hk,Int.reduceEq,SE,SP,SQ,Sf,Sx]
  rw [e]
  exact hne
 ·have e:zk p lim world S c i=(xP lim (uU { S with flags:=false } 4 i.sub 0) i.sub.toNat,true):=by unfold zk;simp only [hk,Int.reduceEq,SE,SP,SQ,Sf,Sx]
  rw [e]
  unfold xP
  split
  ·simp
  ·rw [(Ut lim _ 8).1];exact hne
 ·have e:zk p lim world S c i=ZU S c:=by unfold zk;simp only [hk,Int.reduceEq,SE,SP,SQ,Sf,Sx]
  rw [e]
  rw [e] at h1 h2
  unfold ZU at h1 h2 ⊢
  by_cases a:c.Xf ≠ 0
  ·rw [Sn a] at h1;cases h1
  ·rw [Sl a] at h1 h2 ⊢
   by_cases b:S.calls.dropLast ≠ []
   ·rw [Sn b];exact b
   ·rw [Sl b] at h1 h2 ⊢
    by_cases d:(zB S 0).k=1
    ·rw [Sn d] at h2;cases h2
    ·rw [Sl d] at h1;cases h1
 ·have e:zk p lim world S c i=wW lim S c i:=by unfold zk;simp only [hk,Int.reduceEq,SE,SP,SQ,Sf,Sx]
  rw [e]
  unfold wW
  rw [Sl (by omega)]
  split
  ·exact hne
  ·split
   ·exact Jq _ _
   ·rw [(Ut lim S _).1];exact hne
 ·have e:zk p lim world S c i=wW lim S c i:=by unfold zk;simp only [hk,Int.reduceEq,SE,SP,SQ,Sf,Sx]
  rw [e]
  unfold wW
  rw [Sn hk]
  split
  ·exact hne
  ·exact Jq _ _
 ·have e:zk p lim world S c i=(vZ { jj S 1 (ZZ world S.used) with used:=S.used + 1 } 0 (qx (ZZ world S.used)),true):=by unfold zk;simp only [hk,Int.reduceEq,SE,SP,SQ,Sf,Sx]
  rw [e]
  exact hne
 ·have e:zk p lim world S c i=(if (zB S 0).k=1 then (jj S 2 (zB S 0).n,true) else (S,false)):=by unfold zk;simp only [hk,Int.reduceEq,SE,SP,SQ,Sf,Sx]
  rw [e]
  split <;> exact hne
theorem py (lim:Int) (S:St) (k:Int):(yM lim S k).1.gl=S.gl/\(yM lim S k).1.steps=S.steps:=by unfold yM;split <;> exact ⟨rfl,rfl⟩
theorem nf (S:St) (i:uF):(yO S i).1.gl=S.gl/\(yO S i).1.steps=S.steps:=by
 unfold yO
 split
 ·exact ⟨rfl,rfl⟩
 ·split
  ·split
   ·split <;> exact ⟨rfl,rfl⟩
   ·exact ⟨rfl,rfl⟩
  ·exact ⟨rfl,rfl⟩
theorem MY (S:St) (m:V):(ZI S m).1.gl=S.gl/\(ZI S m).1.steps=S.steps:=by
 unfold ZI
 split
 ·split
  ·split <;> exact ⟨rfl,rfl⟩
  ·exact ⟨rfl,rfl⟩
 ·exact ⟨rfl,rfl⟩
theorem Nw (S:St) (c:Fr):(ZU S c).1.gl=S.gl/\(ZU S c).1.steps=S.steps:=by
 unfold ZU
 split
 ·exact ⟨rfl,rfl⟩
 ·split
  ·exact ⟨rfl,rfl⟩
  ·split <;> exact ⟨rfl,rfl⟩
theorem tB (lim:Int) (S:St) (c:Fr) (i:uF):(wW lim S c i).1.gl=S.gl/\(wW lim S c i).1.steps=S.steps:=by
 unfold wW
 split
 ·split <;> exact ⟨rfl,rfl⟩
 ·split
  ·exact ⟨rfl,rfl⟩
  ·split
   ·exact py lim S i.k
   ·exact py lim S i.k
theorem Nb (p:Pg) (S:St) (c:Fr) (i:uF):(WH p S c i).1.gl=S.gl/\(WH p S c i).1.steps=S.steps:=by
 unfold WH
 split
 ·exact ⟨rfl,rfl⟩
 ·split
  ·show (if _=0 then _ else _:St).gl=_/\(if _=0 then _ else _:St).steps=_
   split <;> exact ⟨rfl,rfl⟩
  ·exact ⟨rfl,rfl⟩
theorem tg (lim:Int) (S:St) (f:Nat):(xP lim S f).gl=S.gl/\(xP lim S f).steps=S.steps:=by
 unfold xP
 split <;> exact py lim S 8
theorem Lv (lim:Int) (world:List Int) (S:St) (c:Fr) (G:p9 p i):(zk p lim world S c i).1.gl=S.gl/\(zk p lim world S c i).1.steps=S.steps:=by
 have hd:i.op=1\/i.op=2\/i.op=3\/i.op=4\/i.op=5\/i.op=6\/i.op=7\/i.op=8\/i.op=9\/i.op=10\/i.op=11\/i.op=12\/i.op=13\/i.op=14\/i.op=15\/i.op=16\/i.op=17\/i.op=18\/i.op=19\/i.op=20\/i.op=21\/i.op=22\/i.op=23\/i.op=24\/i.op=25\/i.op=26:=by have:=G.lo;have:=G.hi;omega
 rcases hd with hk | hk | hk | hk | hk | hk | hk | hk | hk | hk | hk | hk | hk | hk | hk | hk | hk | hk | hk | hk | hk | hk | hk | hk | hk | hk
 ·have e:zk p lim world S c i=(vZ S i.r (zB S i.m),true):=by unfold zk;simp only [hk,Int.reduceEq,SE,SP,SQ,Sf,Sx]
  rw [e]
  exact ⟨rfl,rfl⟩
 ·have e:zk p lim world S c i=(vZ S i.r (qx i.k),true):=by unfold zk;simp only [hk,Int.reduceEq,SE,SP,SQ,Sf,Sx]
  rw [e]
  exact ⟨rfl,rfl⟩
 ·have e:zk p lim world S c i=yO S i:=by unfold zk;simp only [hk,Int.reduceEq,SE,SP,SQ,Sf,Sx]
  rw [e]
  exact nf S i
 ·have e:zk p lim world S c i=yO S i:=by unfold zk;simp only [hk,Int.reduceEq,SE,SP,SQ,Sf,Sx]
  rw [e]
  exact nf S i
 ·have e:zk p lim world S c i=vF S i.r (yu 11 (zB S i.m) (qx i.k)):=by unfold zk;simp only [hk,Int.reduceEq,SE,SP,SQ,Sf,Sx]
  rw [e]
  exact ⟨rfl,rfl⟩
 ·have e:zk p lim world S c i=(vZ S i.r (np (S.gl.getD i.sub.toNat 0) i.k),true):=by unfold zk;simp only [hk,Int.reduceEq,SE,SP,SQ,Sf,Sx]
  rw [e]
  exact ⟨rfl,rfl⟩
 ·have e:zk p lim world S c i=vF S i.r (yu i.sub (zB S i.r) (zB S i.m)):=by unfold zk;simp only [hk,Int.reduceEq,SE,SP,SQ,Sf,Sx]
  rw [e]
  exact ⟨rfl,rfl⟩
 ·have e:zk p lim world S c i=vF S i.r (yu i.sub (zB S i.r) (qx i.k)):=by unfold zk;simp only [hk,Int.reduceEq,SE,SP,SQ,Sf,Sx]
  rw [e]
  exact ⟨rfl,rfl⟩
 ·have e:zk p lim world S c i=vF S i.r (eh i.sub (zB S i.r)):=by unfold zk;simp only [hk,Int.reduceEq,SE,SP,SQ,Sf,Sx]
  rw [e]
  exact ⟨rfl,rfl⟩
 ·have e:zk p lim world S c i=vF S i.r (eh i.sub (zB S i.m)):=by unfold zk;simp only [hk,Int.reduceEq,SE,SP,SQ,Sf,Sx]
  rw [e]
  exact ⟨rfl,rfl⟩
 ·have e:zk p lim world S c i=vF S i.r (yu i.sub (zB S i.r) (qx i.k)):=by unfold zk;simp only [hk,Int.reduceEq,SE,SP,SQ,Sf,Sx]
  rw [e]
  exact ⟨rfl,rfl⟩
 ·have e:zk p lim world S c i=(if (zB S 1).k=1 then vF S i.r (yu i.sub (zB S i.r) (qx (X1 (· &&& ·) (zB S 1).n 63))) else (S,false)):=by unfold zk;simp only [hk,Int.reduceEq,SE,SP,SQ,Sf,Sx]
  rw [e]
  split <;> exact ⟨rfl,rfl⟩
 ·have e:zk p lim world S c i=(vZ S 2 (VR (zB S 0)),decide ((zB S 0).k=1)):=by unfold zk;simp only [hk,Int.reduceEq,SE,SP,SQ,Sf,Sx]
  rw [e]
  exact ⟨rfl,rfl⟩
 ·have e:zk p lim world S c i=ZI S (zB S i.m):=by unfold zk;simp only [hk,Int.reduceEq,SE,SP,SQ,Sf,Sx]
  rw [e]
  exact MY S _
 ·have e:zk p lim world S c i=({ S with flags:=true,a:=zB S i.r,b:=zB S i.m },true):=by unfold zk;simp only [hk,Int.reduceEq,SE,SP,SQ,Sf,Sx]
  rw [e]
  exact ⟨rfl,rfl⟩
 ·have e:zk p lim world S c i=({ S with flags:=true,a:=zB S i.r,b:=qx i.k },true):=by unfold zk;simp only [hk,Int.reduceEq,SE,SP,SQ,Sf,Sx]
  rw [e]
  exact ⟨rfl,rfl⟩
 ·have e:zk p lim world S c i=(if S.flags=true then vF S i.r (yu i.cc S.a S.b) else (S,false)):=by unfold zk;simp only [hk,Int.reduceEq,SE,SP,SQ,Sf,Sx]
  rw [e]
  split <;> exact ⟨rfl,rfl⟩
 ·have e:zk p lim world S c i=(ja S { c with pt:=ZT p c.f i.l },true):=by unfold zk;simp only [hk,Int.reduceEq,SE,SP,SQ,Sf,Sx]
  rw [e]
  exact ⟨rfl,rfl⟩
 ·have e:zk p lim world S c i=WH p S c i:=by unfold zk;simp only [hk,Int.reduceEq,SE,SP,SQ,Sf,Sx]
  rw [e]
  exact Nb p S c i
 ·have e:zk p lim world S c i=(S,true):=by unfold zk;simp only [hk,Int.reduceEq,SE,SP,SQ,Sf,Sx]
  rw [e]
  exact ⟨rfl,rfl⟩
 ·have e:zk p lim world S c i=(xP lim (uU { S with flags:=false } 4 i.sub 0) i.sub.toNat,true):=by unfold zk;simp only [hk,Int.reduceEq,SE,SP,SQ,Sf,Sx]
  rw [e]
  exact tg lim _ _
 ·have e:zk p lim world S c i=ZU S c:=by unfold zk;simp only [hk,Int.reduceEq,SE,SP,SQ,Sf,Sx]
  rw [e]
  exact Nw S c
 ·have e:zk p lim world S c i=wW lim S c i:=by unfold zk;simp only [hk,Int.reduceEq,SE,SP,SQ,Sf,Sx]
  rw [e]
  exact tB lim S c i
 ·have e:zk p lim world S c i=wW lim S c i:=by unfold zk;simp only [hk,Int.reduceEq,SE,SP,SQ,Sf,Sx]
  rw [e]
  exact tB lim S c i
 ·have e:zk p lim world S c i=(vZ { jj S 1 (ZZ world S.used) with used:=S.used + 1 } 0 (qx (ZZ world S.used)),true):=by unfold zk;simp only [hk,Int.reduceEq,SE,SP,SQ,Sf,Sx]
  rw [e]
  exact ⟨rfl,rfl⟩
 ·have e:zk p lim world S c i=(if (zB S 0).k=1 then (jj S 2 (zB S 0).n,true) else (S,false)):=by unfold zk;simp only [hk,Int.reduceEq,SE,SP,SQ,Sf,Sx]
  rw [e]
  split <;> exact ⟨rfl,rfl⟩
end
end Go.As
