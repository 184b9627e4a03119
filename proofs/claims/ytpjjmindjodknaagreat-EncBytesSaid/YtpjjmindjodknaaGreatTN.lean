import Derived.Test.YtpjjmindjodknaaGreatTM
set_option linter.unusedVariables false
set_option linter.unusedSimpArgs false
set_option maxRecDepth 100000
namespace Go.Eb
open Go.Ai Go.Proofs
open Go.Rtl (zL zP Old inc)
open Go.As (z8)
open Go.En
def qP (h:za) (bs:List Int) (r:Value) (h':za):Prop:=Sat (.of h) h' [wR r bs]
section
variable {h h2:za} {b:Nat} {r m sub cc l k:Int} {J:List Value->za->Prop}
theorem fin {v:Value} {bs bs':List Int} {L:List HP} (s:Sat (.of h) h2 (wR v bs :: L)) (e:bs=bs'):qP h bs' v h2:=by
 subst e;exact s.zK 1
theorem Vj {h:za} {n b:Nat} {o:wi} (hg:h.get b=some o) (hb:b < n):(trim h n).get b=some o:=by rw [pe hb];exact hg
theorem LM (R:yk r) (M:yk m) (w2:w9 h2) (s2:Sat (.of h) h2 [pt b (.cells (z8.row ⟨1,r,m,sub,cc,l,k⟩) 42)]):yy (.int .i64 1) h2 (.pointer (some ⟨b,0,none⟩)) (qP h (zw ⟨1,r,m,sub,cc,l,k⟩ 0)) J:=by
 have g2:=s2.get
 have l2:=s2.lt
 have s3:Sat (.of h) (h2.push (.cells [.int .u8 137] 5)) (wR (.slice (some ⟨h2.next,0,none⟩) 1 3) [137] :: [pt b _]):=yp s2 [137] 3 (by decide)
 unfold yy
 simp -implicitDefEqProofs only [EE,zq,zi,yf,zC,zM,nT,g2,l2]
 refine XT (.inl rfl) M R s3 (by decide) fun r h' rn s4 => ?_
 simp -implicitDefEqProofs only [EE,rn]
 exact fin s4 rfl
theorem FY (R:yk r) (M:yk m) (w2:w9 h2) (s2:Sat (.of h) h2 [pt b (.cells (z8.row ⟨3,r,m,8,cc,l,k⟩) 42)]):yy (.int .i64 3) h2 (.pointer (some ⟨b,0,none⟩)) (qP h (zw ⟨3,r,m,8,cc,l,k⟩ 0)) J:=by
 have g2:=s2.get
 have l2:=s2.lt
 have s3:Sat (.of h) (h2.push (.cells [.int .u8 139] 5)) (wR (.slice (some ⟨h2.next,0,none⟩) 1 3) [139] :: [pt b _]):=yp s2 [139] 3 (by decide)
 unfold yy
 simp -implicitDefEqProofs only [EE,↓z7,Int.reduceEq,zq,xA,zi,yf,zC,zM,zk,zu,tK,bL,ui,vN,g2,l2]
 refine Xd (.inl rfl) R M s3 (by decide) fun r h' rn s4 => ?_
 simp -implicitDefEqProofs only [EE,rn]
 exact fin s4 rfl
theorem FX (R:yk r) (M:yk m) (w2:w9 h2) (s2:Sat (.of h) h2 [pt b (.cells (z8.row ⟨3,r,m,4,cc,l,k⟩) 42)]):yy (.int .i64 3) h2 (.pointer (some ⟨b,0,none⟩)) (qP h (zw ⟨3,r,m,4,cc,l,k⟩ 0)) J:=by
 have g2:=s2.get
 have l2:=s2.lt
 have s3:Sat (.of h) (h2.push (.cells [.int .u8 99] 5)) (wR (.slice (some ⟨h2.next,0,none⟩) 1 3) [99] :: [pt b _]):=yp s2 [99] 3 (by decide)
 unfold yy
 simp -implicitDefEqProofs only [EE,↓z7,Int.reduceEq,zq,xA,zi,yf,zC,zM,zk,zu,tJ,lB,bL,ui,vN,g2,l2]
 refine Xd (.inl rfl) R M s3 (by decide) fun r h' rn s4 => ?_
 simp -implicitDefEqProofs only [EE,rn]
 exact fin s4 rfl
theorem FW (R:yk r) (M:yk m) (w2:w9 h2) (s2:Sat (.of h) h2 [pt b (.cells (z8.row ⟨3,r,m,1,cc,l,k⟩) 42)]):yy (.int .i64 3) h2 (.pointer (some ⟨b,0,none⟩)) (qP h (zw ⟨3,r,m,1,cc,l,k⟩ 0)) J:=by
 have g2:=s2.get
 have l2:=s2.lt
 have s3:Sat (.of h) (h2.push (.cells [.int .u8 15,.int .u8 190] 5)) (wR (.slice (some ⟨h2.next,0,none⟩) 2 4) [15,190] :: [pt b _]):=yp s2 [15,190] 4 (by decide)
 unfold yy
 simp -implicitDefEqProofs only [EE,↓z7,Int.reduceEq,zq,xA,zi,xw,zC,zM,zk,zu,lB,bL,tL,ui,vN,g2,l2]
 refine Xd (.inl rfl) R M s3 (by decide) fun r h' rn s4 => ?_
 simp -implicitDefEqProofs only [EE,rn]
 exact fin s4 rfl
theorem F4 (R:yk r) (M:yk m) (w2:w9 h2) (s2:Sat (.of h) h2 [pt b (.cells (z8.row ⟨4,r,m,8,cc,l,k⟩) 42)]):yy (.int .i64 4) h2 (.pointer (some ⟨b,0,none⟩)) (qP h (zw ⟨4,r,m,8,cc,l,k⟩ 0)) J:=by
 have g2:=s2.get
 have l2:=s2.lt
 have s3:Sat (.of h) (h2.push (.cells [.int .u8 137] 5)) (wR (.slice (some ⟨h2.next,0,none⟩) 1 3) [137] :: [pt b _]):=yp s2 [137] 3 (by decide)
 unfold yy
 simp -implicitDefEqProofs only [EE,↓z7,Int.reduceEq,zq,xA,zi,yf,zC,zM,zk,zu,nD,KI,qe,ui,vN,g2,l2]
 refine Xd (.inl rfl) R M s3 (by decide) fun r h' rn s4 => ?_
 simp -implicitDefEqProofs only [EE,rn]
 exact fin s4 rfl
theorem F3 (R:yk r) (M:yk m) (w2:w9 h2) (s2:Sat (.of h) h2 [pt b (.cells (z8.row ⟨4,r,m,4,cc,l,k⟩) 42)]):yy (.int .i64 4) h2 (.pointer (some ⟨b,0,none⟩)) (qP h (zw ⟨4,r,m,4,cc,l,k⟩ 0)) J:=by
 have g2:=s2.get
 have l2:=s2.lt
 have s3:Sat (.of h) (h2.push (.cells [.int .u8 137] 5)) (wR (.slice (some ⟨h2.next,0,none⟩) 1 3) [137] :: [pt b _]):=yp s2 [137] 3 (by decide)
 unfold yy
 simp -implicitDefEqProofs only [EE,↓z7,Int.reduceEq,zq,xA,zi,yf,zC,zM,zk,zu,nC,dt,KI,qe,ui,vN,g2,l2]
 refine Xd (.inr rfl) R M s3 (by decide) fun r h' rn s4 => ?_
 simp -implicitDefEqProofs only [EE,rn]
 exact fin s4 rfl
theorem FZ (R:yk r) (M:yk m) (w2:w9 h2) (s2:Sat (.of h) h2 [pt b (.cells (z8.row ⟨4,r,m,1,cc,l,k⟩) 42)]):yy (.int .i64 4) h2 (.pointer (some ⟨b,0,none⟩)) (qP h (zw ⟨4,r,m,1,cc,l,k⟩ 0)) J:=by
 have g2:=s2.get
 have l2:=s2.lt
 have s3:Sat (.of h) (h2.push (.cells [.int .u8 136] 5)) (wR (.slice (some ⟨h2.next,0,none⟩) 1 3) [136] :: [pt b _]):=yp s2 [136] 3 (by decide)
 unfold yy
 simp -implicitDefEqProofs only [EE,↓z7,Int.reduceEq,zq,xA,zi,yf,zC,zM,zk,zu,dt,KI,nE,qe,ui,vN,g2,l2]
 refine Xd (.inr rfl) R M s3 (by decide) fun r h' rn s4 => ?_
 simp -implicitDefEqProofs only [EE,rn]
 exact fin s4 rfl
theorem LO (R:yk r) (M:yk m) (w2:w9 h2) (s2:Sat (.of h) h2 [pt b (.cells (z8.row ⟨5,r,m,sub,cc,l,k⟩) 42)]):yy (.int .i64 5) h2 (.pointer (some ⟨b,0,none⟩)) (qP h (zw ⟨5,r,m,sub,cc,l,k⟩ 0)) J:=by
 have g2:=s2.get
 have l2:=s2.lt
 have s3:Sat (.of h) (h2.push (.cells [.int .u8 141] 5)) (wR (.slice (some ⟨h2.next,0,none⟩) 1 3) [141] :: [pt b _]):=yp s2 [141] 3 (by decide)
 unfold yy
 simp -implicitDefEqProofs only [EE,Int.reduceEq,zq,xA,zi,yf,zC,zM,zu,nS,jc,qe,ui,vN,g2,l2]
 refine Xd (.inl rfl) R M s3 (by decide) fun r h' rn s4 => ?_
 simp -implicitDefEqProofs only [EE,rn]
 exact fin s4 rfl
theorem H9 (R:yk r) (M:yk m) (w2:w9 h2) (s2:Sat (.of h) h2 [pt b (.cells (z8.row ⟨7,r,m,13,cc,l,k⟩) 42)]):yy (.int .i64 7) h2 (.pointer (some ⟨b,0,none⟩)) (qP h (zw ⟨7,r,m,13,cc,l,k⟩ 0)) J:=by
 have g2:=s2.get
 have l2:=s2.lt
 have s3:Sat (.of h) (h2.push (.cells [.int .u8 15,.int .u8 175] 5)) (wR (.slice (some ⟨h2.next,0,none⟩) 2 4) [15,175] :: [pt b _]):=yp s2 [15,175] 4 (by decide)
 unfold yy
 simp -implicitDefEqProofs only [EE,Int.reduceEq,zq,zi,xw,zC,zM,zk,nG,dw,Zv,jJ,jc,qe,ui,vN,g2,l2]
 refine XT (.inl rfl) R M s3 (by decide) fun r h' rn s4 => ?_
 simp -implicitDefEqProofs only [EE,rn]
 exact fin s4 rfl
theorem LR (R:yk r) (M:yk m) (hs:¬ sub=13) (w2:w9 h2) (s2:Sat (.of h) h2 [pt b (.cells (z8.row ⟨7,r,m,sub,cc,l,k⟩) 42)]):yy (.int .i64 7) h2 (.pointer (some ⟨b,0,none⟩)) (qP h (zw ⟨7,r,m,sub,cc,l,k⟩ 0)) J:=by
 have g2:=s2.get
 have l2:=s2.lt
 have gt:∀ o,(trim (h2.push o) h2.next).get b=some (.cells (z8.row ⟨7,r,m,sub,cc,l,k⟩) 42):=fun o=>Vj (by rw [zQ l2];exact g2) l2
 have s3:Sat (.of h) (h2.push (.cells [.int .u8 (Go.En.jw sub)] 5)) (wR (.slice (some ⟨h2.next,0,none⟩) 1 3) [Go.En.jw sub] :: [pt b _]):=yp s2 [Go.En.jw sub] 3 (by decide)
 unfold yy
 simp -implicitDefEqProofs only [EE,Int.reduceEq,zq,zi,zk,dw,Zv,jJ,jc,qe,ui,vN,g2,hs]
 refine xW (by kernel_rfl) rfl (ij sub _) ?_
 simp -implicitDefEqProofs only [EE,zq,zi,yf,zC,zM,nH,gt]
 refine mB (.inl rfl) M R s3 (qL w2 _) (by simp) fun v h' w rn s4 => ?_
 simp -implicitDefEqProofs only [EE,rn]
 refine fin s4 ?_
 have e:zw ⟨7,r,m,sub,cc,l,k⟩ 0=if sub=13 then [zo 72 r m,15,175,xk r m] else [zo 72 m r,Go.En.jw sub,xk m r]:=rfl
 rw [e,NJ hs];rfl
theorem LN (R:yk r) (hk:Go.Ar.uN k=true) (w2:w9 h2) (s2:Sat (.of h) h2 [pt b (.cells (z8.row ⟨2,r,m,sub,cc,l,k⟩) 42)]):yy (.int .i64 2) h2 (.pointer (some ⟨b,0,none⟩)) (qP h (zw ⟨2,r,m,sub,cc,l,k⟩ 0)) J:=by
 have g2:=s2.get
 have l2:=s2.lt
 have gt:∀ o,(trim (h2.push o) h2.next).get b=some (.cells (z8.row ⟨2,r,m,sub,cc,l,k⟩) 42):=fun o=>Vj (by rw [zQ l2];exact g2) l2
 have s3:Sat (.of h) (h2.push (.cells [.int .u8 199] 5)) (wR (.slice (some ⟨h2.next,0,none⟩) 1 3) [199] :: [pt b _]):=yp s2 [199] 3 (by decide)
 unfold yy
 simp -implicitDefEqProofs only [EE,Int.reduceEq,zq,xA,zu,dx,vN,g2]
 refine zJ (by kernel_rfl) rfl (Af k _) ?_
 rw [hk]
 simp -implicitDefEqProofs only [EE,zq,zi,yf,zC,tG,gt]
 refine mB (.inl rfl) (by decide) R s3 (qL w2 _) (by decide) fun v h' w rn s4 => ?_
 have g4:(trim h' h2.next).get b=some (.cells (z8.row ⟨2,r,m,sub,cc,l,k⟩) 42):=Vj (s4.p 2).get l2
 simp -implicitDefEqProofs only [EE,zq,xA,zu,tF,g4]
 refine Jd s4 w (n:=4) rfl (by decide) fun v2 h5 w5 rn2 s5 => ?_
 refine Zj (s5.f [0,1]) (by simp [wm]) fun v3 h6 rn3 s6 => ?_
 simp -implicitDefEqProofs only [EE,rn3]
 refine fin s6 ?_
 have e:zw ⟨2,r,m,sub,cc,l,k⟩ 0=if Go.Ar.uN k=true then [zo 72 0 r,199,xk 0 r] ++ uG 4 k else [zo 72 0 r,184 + r % 8] ++ uG 8 k:=rfl
 rw [e,NK hk];rfl
theorem H8 (R:yk r) (hk:¬ Go.Ar.uN k=true) (w2:w9 h2) (s2:Sat (.of h) h2 [pt b (.cells (z8.row ⟨2,r,m,sub,cc,l,k⟩) 42)]):yy (.int .i64 2) h2 (.pointer (some ⟨b,0,none⟩)) (qP h (zw ⟨2,r,m,sub,cc,l,k⟩ 0)) J:=by
 have g2:=s2.get
 have l2:=s2.lt
 have hk0:Go.Ar.uN k=false:=by simpa using hk
 have q1:=U6 R.1 R.2
 have q2:IntKind.wrap .u8 (184 + IntKind.wrap .u8 (r % 8))=184 + r % 8:=by
  have:∀ n:Int,IntKind.wrap .u8 n=n % 256:=i7
  rw [this,this];omega
 have s3:Sat (.of h) (h2.push (.cells [.int .u8 (zo 72 0 r),.int .u8 (184 + r % 8)] 5)) (wR (.slice (some ⟨h2.next,0,none⟩) 2 4) [zo 72 0 r,184 + r % 8] :: [pt b _]):=yp s2 [zo 72 0 r,184 + r % 8] 4 (by decide)
 have gc:(cut (h2.push (.cells [.int .u8 (zo 72 0 r),.int .u8 (184 + r % 8)] 5)) h2.next (h2.next + 1)).get b=some (.cells (z8.row ⟨2,r,m,sub,cc,l,k⟩) 42):=uS (by rw [zQ l2];exact g2) l2
 unfold yy
 simp -implicitDefEqProofs only [EE,Int.reduceEq,zq,xA,zu,dx,vN,g2]
 refine zJ (by kernel_rfl) rfl (Af k _) ?_
 rw [hk0]
 simp -implicitDefEqProofs only [EE,zq,zi,zC,tI,g2]
 refine xW (by kernel_rfl) rfl (AK (.inl rfl) 0 r _) ?_
 simp -implicitDefEqProofs only [EE,zq,xA,zi,xw,WY,zC,zu,tH,g2,q1,q2,gc]
 refine JU s3 (qL w2 _) (n:=8) rfl (by decide) rfl (fun _ _=>XM) fun v h' w rn s4 => ?_
 refine XK (s4.f [1,0]) (fun q hq => ?_) (xx s4 NT) (by simp [wm]) rn fun a n c h5 s5 => ?_
 ·simp only [Go.Rtl.QF,N7] at hq;subst hq;exact ⟨NG _,N0 _⟩
 ·simp -implicitDefEqProofs only [EE]
  refine fin s5 ?_
  have e:zw ⟨2,r,m,sub,cc,l,k⟩ 0=if Go.Ar.uN k=true then [zo 72 0 r,199,xk 0 r] ++ uG 4 k else [zo 72 0 r,184 + r % 8] ++ uG 8 k:=rfl
  rw [e,NJ hk]
theorem LQ (R:yk r) (w2:w9 h2) (s2:Sat (.of h) h2 [pt b (.cells (z8.row ⟨6,r,m,sub,cc,l,k⟩) 42)]):yy (.int .i64 6) h2 (.pointer (some ⟨b,0,none⟩)) (qP h (zw ⟨6,r,m,sub,cc,l,k⟩ 0)) J:=by
 have g2:=s2.get
 have l2:=s2.lt
 have q1:=U6 R.1 R.2
 have q2:IntKind.wrap .u8 (BitVec.ofInt (IntKind.bits .u8) 5 ||| BitVec.ofInt (IntKind.bits .u8) (IntKind.wrap .u8 (IntKind.wrap .u8 (r % 8) * 2 ^ (min 3 (IntKind.bits .u8))))).toNat=5 + r % 8 * 8:=Ie (Wd r).1 (Wd r).2
 have s3:Sat (.of h) (h2.push (.cells [.int .u8 (zo 72 r 0),.int .u8 (141),.int .u8 (5 + r % 8 * 8)] 5)) (wR (.slice (some ⟨h2.next,0,none⟩) 3 5) [zo 72 r 0,141,5 + r % 8 * 8] :: [pt b _]):=yp s2 [zo 72 r 0,141,5 + r % 8 * 8] 5 (by decide)
 unfold yy
 simp -implicitDefEqProofs only [EE,Int.reduceEq,zq,zi,zC,nR,jJ,jc,qe,ui,vN,g2]
 refine xW (by kernel_rfl) rfl (AK (.inl rfl) r 0 _) ?_
 simp -implicitDefEqProofs only [EE,Int.reduceLE,Int.reduceToNat,zq,zi,yA,WY,zC,nF,g2,q1,q2]
 refine JU s3 (qL w2 _) (n:=4) rfl (by decide) rfl (fun _ _=>XM) fun v h' w rn s4 => ?_
 refine XK (s4.f [1,0]) (fun q hq => ?_) (xx s4 NT) (by simp [wm]) rn fun a n c h5 s5 => ?_
 ·simp only [Go.Rtl.QF,N7] at hq;subst hq;exact ⟨NG _,N0 _⟩
 ·simp -implicitDefEqProofs only [EE]
  exact fin s5 rfl
theorem Ia (R:yk r) (w2:w9 h2) (s2:Sat (.of h) h2 [pt b (.cells (z8.row ⟨8,r,m,13,cc,l,k⟩) 42)]):yy (.int .i64 8) h2 (.pointer (some ⟨b,0,none⟩)) (qP h (zw ⟨8,r,m,13,cc,l,k⟩ 0)) J:=by
 have g2:=s2.get
 have l2:=s2.lt
 have gt:∀ o,(trim (h2.push o) h2.next).get b=some (.cells (z8.row ⟨8,r,m,13,cc,l,k⟩) 42):=fun o=>Vj (by rw [zQ l2];exact g2) l2
 have s3:Sat (.of h) (h2.push (.cells [.int .u8 105] 5)) (wR (.slice (some ⟨h2.next,0,none⟩) 1 3) [105] :: [pt b _]):=yp s2 [105] 3 (by decide)
 unfold yy
 simp -implicitDefEqProofs only [EE,Int.reduceEq,zq,zi,yf,zC,zk,nJ,dv,YP,Zv,jJ,jc,qe,ui,vN,g2,gt]
 refine mB (.inl rfl) R R s3 (qL w2 _) (by decide) fun v h' w rn s4 => ?_
 have g4:(trim h' h2.next).get b=some (.cells (z8.row ⟨8,r,m,13,cc,l,k⟩) 42):=Vj (s4.p 2).get l2
 simp -implicitDefEqProofs only [EE,zq,xA,zu,nI,g4]
 refine Jd s4 w (n:=4) rfl (by decide) fun v2 h5 w5 rn2 s5 => ?_
 refine Zj (s5.f [0,1]) (by simp [wm]) fun v3 h6 rn3 s6 => ?_
 simp -implicitDefEqProofs only [EE,rn3]
 exact fin s6 rfl
theorem oU {s:Int} (h:s=11\/s=12\/s=16\/s=17\/s=18):IntKind.wrap .i64 (IntKind.wrap .u8 (Go.En.jw s / 2 ^ 3))=jE s/\IntKind.wrap .i64 ((Go.En.jw s).fdiv (2 ^ (min 3 (IntKind.bits .u8))))=jE s/\0<=jE s/\jE s < 8:=by
 rcases h with rfl | rfl | rfl | rfl | rfl <;> decide
theorem LS (R:yk r) (hs:sub=11\/sub=12\/sub=16\/sub=17\/sub=18) (w2:w9 h2) (s2:Sat (.of h) h2 [pt b (.cells (z8.row ⟨8,r,m,sub,cc,l,k⟩) 42)]):yy (.int .i64 8) h2 (.pointer (some ⟨b,0,none⟩)) (qP h (zw ⟨8,r,m,sub,cc,l,k⟩ 0)) J:=by
 have g2:=s2.get
 have l2:=s2.lt
 have hs0:¬ sub=13:=by omega
 have q:=oU hs
 have s3:Sat (.of h) (h2.push (.cells [.int .u8 129] 5)) (wR (.slice (some ⟨h2.next,0,none⟩) 1 3) [129] :: [pt b _]):=yp s2 [129] 3 (by decide)
 have gc:(cut (h2.push (.cells [.int .u8 129] 5)) h2.next (h2.next + 1)).get b=some (.cells (z8.row ⟨8,r,m,sub,cc,l,k⟩) 42):=uS (by rw [zQ l2];exact g2) l2
 unfold yy
 simp -implicitDefEqProofs only [EE,Int.reduceEq,zq,zi,yf,zk,nM,dv,YP,Zv,jJ,jc,qe,ui,vN,g2,hs0,gc]
 refine xW (by kernel_rfl) rfl (ij sub _) ?_
 simp -implicitDefEqProofs only [EE,Int.reduceLE,Int.reduceToNat,zq,zi,D1,zC,nL,gc,q.2.1]
 refine Ji (.inl rfl) ⟨q.2.2.1,by omega⟩ R s3 (qL w2 _) (by decide) rfl (fun _ _ h=>h) (xx s3 NT) fun v h' w nx rn s4 => ?_
 have g4:(cut (cut h' h2.next (h2.next + 1)) (h2.next + 1) h'.next).get b=some (.cells (z8.row ⟨8,r,m,sub,cc,l,k⟩) 42):=uS (uS (s4.p 2).get l2) (O1 l2)
 simp -implicitDefEqProofs only [EE,zq,xA,zu,nK,g4]
 refine JU s4 w (n:=4) rfl (by decide) rfl (fun _ _ h=>h) fun v2 h5 w5 rn2 s5 => ?_
 refine Zj (s5.f [0,1]) (by simp [wm]) fun v3 h6 rn3 s6 => ?_
 simp -implicitDefEqProofs only [EE,rn3]
 refine fin s6 ?_
 have e:zw ⟨8,r,m,sub,cc,l,k⟩ 0=if sub=13 then [zo 72 r r,105,xk r r] ++ uG 4 k else [zo 72 0 r,129,xk (jE sub) r] ++ uG 4 k:=rfl
 have e2:zo 72 (jE sub) r=zo 72 0 r:=by unfold zo;rw [NJ (show ¬ 8<=jE sub by omega),NJ (show ¬ (8:Int)<=0 by decide)]
 rw [e,NJ hs0,e2];rfl
theorem H5 (R:yk r) (w2:w9 h2) (s2:Sat (.of h) h2 [pt b (.cells (z8.row ⟨16,r,m,sub,cc,l,k⟩) 42)]):yy (.int .i64 16) h2 (.pointer (some ⟨b,0,none⟩)) (qP h (zw ⟨16,r,m,sub,cc,l,k⟩ 0)) J:=by
 have g2:=s2.get
 have l2:=s2.lt
 have gt:∀ o,(trim (h2.push o) h2.next).get b=some (.cells (z8.row ⟨16,r,m,sub,cc,l,k⟩) 42):=fun o=>Vj (by rw [zQ l2];exact g2) l2
 have s3:Sat (.of h) (h2.push (.cells [.int .u8 129] 5)) (wR (.slice (some ⟨h2.next,0,none⟩) 1 3) [129] :: [pt b _]):=yp s2 [129] 3 (by decide)
 unfold yy
 simp -implicitDefEqProofs only [EE,Int.reduceEq,zq,zi,yf,zC,nQ,VH,YP,Zv,jJ,jc,qe,ui,vN,gt]
 refine mB (.inl rfl) (by decide) R s3 (qL w2 _) (by decide) fun v h' w rn s4 => ?_
 have g4:(trim h' h2.next).get b=some (.cells (z8.row ⟨16,r,m,sub,cc,l,k⟩) 42):=Vj (s4.p 2).get l2
 simp -implicitDefEqProofs only [EE,zq,xA,zu,nN,g4]
 refine Jd s4 w (n:=4) rfl (by decide) fun v2 h5 w5 rn2 s5 => ?_
 refine Zj (s5.f [0,1]) (by simp [wm]) fun v3 h6 rn3 s6 => ?_
 simp -implicitDefEqProofs only [EE,rn3]
 exact fin s6 rfl
theorem H6  (w2:w9 h2) (s2:Sat (.of h) h2 [pt b (.cells (z8.row ⟨23,r,m,sub,cc,l,k⟩) 42)]):yy (.int .i64 23) h2 (.pointer (some ⟨b,0,none⟩)) (qP h (zw ⟨23,r,m,sub,cc,l,k⟩ 0)) J:=by
 have g2:=s2.get
 have l2:=s2.lt
 have s3:Sat (.of h) (h2.push (.cells [.int .u8 72,.int .u8 129,.int .u8 236] 5)) (wR (.slice (some ⟨h2.next,0,none⟩) 3 5) [72,129,236] :: [pt b _]):=yp s2 [72,129,236] 5 (by decide)
 unfold yy
 simp -implicitDefEqProofs only [EE,Int.reduceEq,zq,xA,yA,zu,nP,KJ,VH,YP,Zv,jJ,jc,qe,ui,vN,g2,l2]
 refine VY s3 (n:=4) rfl (by decide) fun v h' rn s4 => ?_
 refine Zj s4 (by simp [wm]) fun v3 h6 rn3 s6 => ?_
 simp -implicitDefEqProofs only [EE,rn3]
 exact fin s6 rfl
theorem H7  (w2:w9 h2) (s2:Sat (.of h) h2 [pt b (.cells (z8.row ⟨24,r,m,sub,cc,l,k⟩) 42)]):yy (.int .i64 24) h2 (.pointer (some ⟨b,0,none⟩)) (qP h (zw ⟨24,r,m,sub,cc,l,k⟩ 0)) J:=by
 have g2:=s2.get
 have l2:=s2.lt
 have s3:Sat (.of h) (h2.push (.cells [.int .u8 72,.int .u8 129,.int .u8 196] 5)) (wR (.slice (some ⟨h2.next,0,none⟩) 3 5) [72,129,196] :: [pt b _]):=yp s2 [72,129,196] 5 (by decide)
 unfold yy
 simp -implicitDefEqProofs only [EE,Int.reduceEq,zq,xA,yA,zu,nO,du,KJ,VH,YP,Zv,jJ,jc,qe,ui,vN,g2,l2]
 refine VY s3 (n:=4) rfl (by decide) fun v h' rn s4 => ?_
 refine Zj s4 (by simp [wm]) fun v3 h6 rn3 s6 => ?_
 simp -implicitDefEqProofs only [EE,rn3]
 exact fin s6 rfl
end
section
variable {h h2:za} {b:Nat} {r m sub cc l k:Int} {J:List Value->za->Prop}
theorem CL (R:yk r) (w2:w9 h2) (s2:Sat (.of h) h2 [pt b (.cells (z8.row ⟨9,r,m,1,cc,l,k⟩) 42)]):zS (.int .i64 9) (.pointer (some ⟨b,0,none⟩)) h2 (qP h (zw ⟨9,r,m,1,cc,l,k⟩ 0)) J:=by
 have g2:=s2.get
 have l2:=s2.lt
 unfold zS
 have s3:Sat (.of h) (h2.push (.cells [.int .u8 247] 5)) (wR (.slice (some ⟨h2.next,0,none⟩) 1 3) [247] :: [pt b _]):=yp s2 [247] 3 (by decide)
 simp -implicitDefEqProofs only [EE,nth,zq,zi,yf,zC,zk,Jw,QD,g2,l2]
 refine XT (a:=3) (.inl rfl) (by decide) R s3 (by decide) fun v h' rn s4 => ?_
 simp -implicitDefEqProofs only [EE,rn]
 exact fin s4 rfl
theorem CM (R:yk r) (w2:w9 h2) (s2:Sat (.of h) h2 [pt b (.cells (z8.row ⟨9,r,m,2,cc,l,k⟩) 42)]):zS (.int .i64 9) (.pointer (some ⟨b,0,none⟩)) h2 (qP h (zw ⟨9,r,m,2,cc,l,k⟩ 0)) J:=by
 have g2:=s2.get
 have l2:=s2.lt
 unfold zS
 have s3:Sat (.of h) (h2.push (.cells [.int .u8 247] 5)) (wR (.slice (some ⟨h2.next,0,none⟩) 1 3) [247] :: [pt b _]):=yp s2 [247] 3 (by decide)
 simp -implicitDefEqProofs only [EE,nth,Int.reduceEq,zq,zi,yf,zC,zk,Jw,QD,g2,l2]
 refine XT (a:=2) (.inl rfl) (by decide) R s3 (by decide) fun v h' rn s4 => ?_
 simp -implicitDefEqProofs only [EE,rn]
 exact fin s4 rfl
theorem sR (R:yk r) (M:yk m) (w2:w9 h2) (s2:Sat (.of h) h2 [pt b (.cells (z8.row ⟨10,r,m,3,cc,l,k⟩) 42)]):zS (.int .i64 10) (.pointer (some ⟨b,0,none⟩)) h2 (qP h (zw ⟨10,r,m,3,cc,l,k⟩ 0)) J:=by
 have g2:=s2.get
 have l2:=s2.lt
 unfold zS
 have s3:Sat (.of h) (h2.push (.cells [.int .u8 15,.int .u8 190] 5)) (wR (.slice (some ⟨h2.next,0,none⟩) 2 4) [15,190] :: [pt b _]):=yp s2 [15,190] 4 (by decide)
 simp -implicitDefEqProofs only [EE,Int.reduceEq,zq,zi,xw,zC,zM,zk,ia,QC,wK,g2,l2]
 refine XT (.inl rfl) R M s3 (by decide) fun v h' rn s4 => ?_
 simp -implicitDefEqProofs only [EE,rn]
 exact fin s4 rfl
theorem sS (R:yk r) (M:yk m) (hs:¬ sub=3) (w2:w9 h2) (s2:Sat (.of h) h2 [pt b (.cells (z8.row ⟨10,r,m,sub,cc,l,k⟩) 42)]):zS (.int .i64 10) (.pointer (some ⟨b,0,none⟩)) h2 (qP h (zw ⟨10,r,m,sub,cc,l,k⟩ 0)) J:=by
 have g2:=s2.get
 have l2:=s2.lt
 unfold zS
 have s3:Sat (.of h) (h2.push (.cells [.int .u8 99] 5)) (wR (.slice (some ⟨h2.next,0,none⟩) 1 3) [99] :: [pt b _]):=yp s2 [99] 3 (by decide)
 simp -implicitDefEqProofs only [EE,Int.reduceEq,zq,zi,yf,zC,zM,zk,ib,QC,wK,g2,l2,hs]
 refine XT (.inl rfl) R M s3 (by decide) fun v h' rn s4 => ?_
 simp -implicitDefEqProofs only [EE,rn]
 refine fin s4 ?_
 have e:zw ⟨10,r,m,sub,cc,l,k⟩ 0=if sub=3 then [zo 72 r m,15,190,xk r m] else [zo 72 r m,99,xk r m]:=rfl
 rw [e,NJ hs];rfl
theorem CJ (R:yk r) (w2:w9 h2) (s2:Sat (.of h) h2 [pt b (.cells (z8.row ⟨12,r,m,19,cc,l,k⟩) 42)]):zS (.int .i64 12) (.pointer (some ⟨b,0,none⟩)) h2 (qP h (zw ⟨12,r,m,19,cc,l,k⟩ 0)) J:=by
 have g2:=s2.get
 have l2:=s2.lt
 unfold zS
 have s3:Sat (.of h) (h2.push (.cells [.int .u8 211] 5)) (wR (.slice (some ⟨h2.next,0,none⟩) 1 3) [211] :: [pt b _]):=yp s2 [211] 3 (by decide)
 simp -implicitDefEqProofs only [EE,nth,Int.reduceEq,zq,zi,yf,ze,zC,zk,Jz,X2,YU,ve,wK,g2,l2]
 refine XT (a:=4) (.inl rfl) (by decide) R s3 (by decide) fun v h' rn s4 => ?_
 simp -implicitDefEqProofs only [EE,rn]
 exact fin s4 rfl
theorem CH (R:yk r) (w2:w9 h2) (s2:Sat (.of h) h2 [pt b (.cells (z8.row ⟨11,r,m,19,cc,l,k⟩) 42)]):zS (.int .i64 11) (.pointer (some ⟨b,0,none⟩)) h2 (qP h (zw ⟨11,r,m,19,cc,l,k⟩ 0)) J:=by
 have g2:=s2.get
 have l2:=s2.lt
 unfold zS
 have s3:Sat (.of h) (h2.push (.cells [.int .u8 193] 5)) (wR (.slice (some ⟨h2.next,0,none⟩) 1 3) [193] :: [pt b _]):=yp s2 [193] 3 (by decide)
 have gc:(cut (h2.push (.cells [.int .u8 193] 5)) h2.next (h2.next + 1)).get b=some (.cells (z8.row ⟨11,r,m,19,cc,l,k⟩) 42):=uS (by rw [zQ l2];exact g2) l2
 simp -implicitDefEqProofs only [EE,nth,Int.reduceEq,zq,zi,yf,ze,zC,zk,Jy,X2,YU,ve,wK,g2,gc]
 refine Ji (a:=4) (.inl rfl) (by decide) R s3 (qL w2 _) (by decide) rfl (fun _ _ h=>h) (xx s3 NT) fun v h' w nx rn s4 => ?_
 have g4:(cut (cut h' h2.next (h2.next + 1)) (h2.next + 1) h'.next).get b=some (.cells (z8.row ⟨11,r,m,19,cc,l,k⟩) 42):=uS (uS (s4.p 2).get l2) (O1 l2)
 simp -implicitDefEqProofs only [EE,zq,xA,yf,QJ,zu,Jx,g4]
 refine Hh s4 (by simp) fun v3 h6 rn3 s6 => ?_
 simp -implicitDefEqProofs only [EE,rn3]
 exact fin s6 rfl
theorem CK (R:yk r) (w2:w9 h2) (s2:Sat (.of h) h2 [pt b (.cells (z8.row ⟨12,r,m,20,cc,l,k⟩) 42)]):zS (.int .i64 12) (.pointer (some ⟨b,0,none⟩)) h2 (qP h (zw ⟨12,r,m,20,cc,l,k⟩ 0)) J:=by
 have g2:=s2.get
 have l2:=s2.lt
 unfold zS
 have s3:Sat (.of h) (h2.push (.cells [.int .u8 211] 5)) (wR (.slice (some ⟨h2.next,0,none⟩) 1 3) [211] :: [pt b _]):=yp s2 [211] 3 (by decide)
 simp -implicitDefEqProofs only [EE,nth,Int.reduceEq,zq,zi,yf,ze,zC,zk,Jz,X2,YU,ve,wK,g2,l2]
 refine XT (a:=7) (.inl rfl) (by decide) R s3 (by decide) fun v h' rn s4 => ?_
 simp -implicitDefEqProofs only [EE,rn]
 exact fin s4 rfl
theorem CI (R:yk r) (w2:w9 h2) (s2:Sat (.of h) h2 [pt b (.cells (z8.row ⟨11,r,m,20,cc,l,k⟩) 42)]):zS (.int .i64 11) (.pointer (some ⟨b,0,none⟩)) h2 (qP h (zw ⟨11,r,m,20,cc,l,k⟩ 0)) J:=by
 have g2:=s2.get
 have l2:=s2.lt
 unfold zS
 have s3:Sat (.of h) (h2.push (.cells [.int .u8 193] 5)) (wR (.slice (some ⟨h2.next,0,none⟩) 1 3) [193] :: [pt b _]):=yp s2 [193] 3 (by decide)
 have gc:(cut (h2.push (.cells [.int .u8 193] 5)) h2.next (h2.next + 1)).get b=some (.cells (z8.row ⟨11,r,m,20,cc,l,k⟩) 42):=uS (by rw [zQ l2];exact g2) l2
 simp -implicitDefEqProofs only [EE,nth,Int.reduceEq,zq,zi,yf,ze,zC,zk,Jy,X2,YU,ve,wK,g2,gc]
 refine Ji (a:=7) (.inl rfl) (by decide) R s3 (qL w2 _) (by decide) rfl (fun _ _ h=>h) (xx s3 NT) fun v h' w nx rn s4 => ?_
 have g4:(cut (cut h' h2.next (h2.next + 1)) (h2.next + 1) h'.next).get b=some (.cells (z8.row ⟨11,r,m,20,cc,l,k⟩) 42):=uS (uS (s4.p 2).get l2) (O1 l2)
 simp -implicitDefEqProofs only [EE,zq,xA,yf,QJ,zu,Jx,g4]
 refine Hh s4 (by simp) fun v3 h6 rn3 s6 => ?_
 simp -implicitDefEqProofs only [EE,rn3]
 exact fin s6 rfl
theorem EV (M:yk m) (w2:w9 h2) (s2:Sat (.of h) h2 [pt b (.cells (z8.row ⟨14,r,m,sub,cc,l,k⟩) 42)]):zS (.int .i64 14) (.pointer (some ⟨b,0,none⟩)) h2 (qP h (zw ⟨14,r,m,sub,cc,l,k⟩ 0)) J:=by
 have g2:=s2.get
 have l2:=s2.lt
 unfold zS
 have s3:Sat (.of h) (h2.push (.cells [.int .u8 247] 5)) (wR (.slice (some ⟨h2.next,0,none⟩) 1 3) [247] :: [pt b _]):=yp s2 [247] 3 (by decide)
 simp -implicitDefEqProofs only [EE,nth,Int.reduceEq,zq,zi,yf,zM,dN,uI,uz,ve,wK,g2,l2]
 refine XT (a:=7) (.inl rfl) (by decide) M s3 (by decide) fun v h' rn s4 => ?_
 simp -implicitDefEqProofs only [EE,rn]
 exact fin s4 rfl
theorem EW (R:yk r) (M:yk m) (w2:w9 h2) (s2:Sat (.of h) h2 [pt b (.cells (z8.row ⟨15,r,m,sub,cc,l,k⟩) 42)]):zS (.int .i64 15) (.pointer (some ⟨b,0,none⟩)) h2 (qP h (zw ⟨15,r,m,sub,cc,l,k⟩ 0)) J:=by
 have g2:=s2.get
 have l2:=s2.lt
 unfold zS
 have s3:Sat (.of h) (h2.push (.cells [.int .u8 57] 5)) (wR (.slice (some ⟨h2.next,0,none⟩) 1 3) [57] :: [pt b _]):=yp s2 [57] 3 (by decide)
 simp -implicitDefEqProofs only [EE,nth,Int.reduceEq,zq,zi,yf,zC,zM,dM,qC,uI,uz,ve,wK,g2,l2]
 refine XT (.inl rfl) M R s3 (by decide) fun v h' rn s4 => ?_
 simp -implicitDefEqProofs only [EE,rn]
 exact fin s4 rfl
theorem EU  (w2:w9 h2) (s2:Sat (.of h) h2 [pt b (.cells (z8.row ⟨13,r,m,sub,cc,l,k⟩) 42)]):zS (.int .i64 13) (.pointer (some ⟨b,0,none⟩)) h2 (qP h (zw ⟨13,r,m,sub,cc,l,k⟩ 0)) J:=by
 have g2:=s2.get
 have l2:=s2.lt
 unfold zS
 have s3:Sat (.of h) (h2.push (.cells [.int .u8 72,.int .u8 153] 5)) (wR (.slice (some ⟨h2.next,0,none⟩) 2 4) [72,153] :: [pt b _]):=yp s2 [72,153] 4 (by decide)
 simp -implicitDefEqProofs only [EE,nth,Int.reduceEq,xw,uz,ve,wK]
 exact fin s3 rfl
theorem E2  (w2:w9 h2) (s2:Sat (.of h) h2 [pt b (.cells (z8.row ⟨22,r,m,sub,cc,l,k⟩) 42)]):zS (.int .i64 22) (.pointer (some ⟨b,0,none⟩)) h2 (qP h (zw ⟨22,r,m,sub,cc,l,k⟩ 0)) J:=by
 have g2:=s2.get
 have l2:=s2.lt
 unfold zS
 have s3:Sat (.of h) (h2.push (.cells [.int .u8 195] 5)) (wR (.slice (some ⟨h2.next,0,none⟩) 1 3) [195] :: [pt b _]):=yp s2 [195] 3 (by decide)
 simp -implicitDefEqProofs only [EE,nth,Int.reduceEq,yf,YT,ZP,jS,jd,kx,qC,uI,uz,ve,wK]
 exact fin s3 rfl
theorem E3  (w2:w9 h2) (s2:Sat (.of h) h2 [pt b (.cells (z8.row ⟨25,r,m,sub,cc,l,k⟩) 42)]):zS (.int .i64 25) (.pointer (some ⟨b,0,none⟩)) h2 (qP h (zw ⟨25,r,m,sub,cc,l,k⟩ 0)) J:=by
 have g2:=s2.get
 have l2:=s2.lt
 unfold zS
 have s3:Sat (.of h) (h2.push (.cells [.int .u8 72,.int .u8 237] 5)) (wR (.slice (some ⟨h2.next,0,none⟩) 2 4) [72,237] :: [pt b _]):=yp s2 [72,237] 4 (by decide)
 simp -implicitDefEqProofs only [EE,nth,Int.reduceEq,xw,WK,YT,ZP,jS,jd,kx,qC,uI,uz,ve,wK]
 exact fin s3 rfl
theorem E4  (w2:w9 h2) (s2:Sat (.of h) h2 [pt b (.cells (z8.row ⟨26,r,m,sub,cc,l,k⟩) 42)]):zS (.int .i64 26) (.pointer (some ⟨b,0,none⟩)) h2 (qP h (zw ⟨26,r,m,sub,cc,l,k⟩ 0)) J:=by
 have g2:=s2.get
 have l2:=s2.lt
 unfold zS
 have s3:Sat (.of h) (h2.push (.cells [.int .u8 72,.int .u8 239] 5)) (wR (.slice (some ⟨h2.next,0,none⟩) 2 4) [72,239] :: [pt b _]):=yp s2 [72,239] 4 (by decide)
 simp -implicitDefEqProofs only [EE,nth,Int.reduceEq,xw,QB,WK,YT,ZP,jS,jd,kx,qC,uI,uz,ve,wK]
 exact fin s3 rfl
theorem EY  (w2:w9 h2) (s2:Sat (.of h) h2 [pt b (.cells (z8.row ⟨18,r,m,sub,cc,l,k⟩) 42)]):zS (.int .i64 18) (.pointer (some ⟨b,0,none⟩)) h2 (qP h (zw ⟨18,r,m,sub,cc,l,k⟩ 0)) J:=by
 have g2:=s2.get
 have l2:=s2.lt
 unfold zS
 have s3:Sat (.of h) (h2.push (.cells [.int .u8 233] 5)) (wR (.slice (some ⟨h2.next,0,none⟩) 1 3) [233] :: [pt b _]):=yp s2 [233] 3 (by decide)
 simp -implicitDefEqProofs only [EE,nth,Int.reduceEq,yf,dL,jd,kx,qC,uI,uz,ve,wK]
 refine VY s3 (n:=4) rfl (by decide) fun v h' rn s4 => ?_
 refine Zj s4 (by simp [wm]) fun v3 h6 rn3 s6 => ?_
 simp -implicitDefEqProofs only [EE,rn3]
 exact fin s6 rfl
theorem E1  (w2:w9 h2) (s2:Sat (.of h) h2 [pt b (.cells (z8.row ⟨21,r,m,sub,cc,l,k⟩) 42)]):zS (.int .i64 21) (.pointer (some ⟨b,0,none⟩)) h2 (qP h (zw ⟨21,r,m,sub,cc,l,k⟩ 0)) J:=by
 have g2:=s2.get
 have l2:=s2.lt
 unfold zS
 have s3:Sat (.of h) (h2.push (.cells [.int .u8 232] 5)) (wR (.slice (some ⟨h2.next,0,none⟩) 1 3) [232] :: [pt b _]):=yp s2 [232] 3 (by decide)
 simp -implicitDefEqProofs only [EE,nth,Int.reduceEq,yf,dK,ZP,jS,jd,kx,qC,uI,uz,ve,wK]
 refine VY s3 (n:=4) rfl (by decide) fun v h' rn s4 => ?_
 refine Zj s4 (by simp [wm]) fun v3 h6 rn3 s6 => ?_
 simp -implicitDefEqProofs only [EE,rn3]
 exact fin s6 rfl
theorem EZ (c0:21<=cc) (c1:cc<=26) (w2:w9 h2) (s2:Sat (.of h) h2 [pt b (.cells (z8.row ⟨19,r,m,sub,cc,l,k⟩) 42)]):zS (.int .i64 19) (.pointer (some ⟨b,0,none⟩)) h2 (qP h (zw ⟨19,r,m,sub,cc,l,k⟩ 0)) J:=by
 have g2:=s2.get
 have l2:=s2.lt
 unfold zS
 have cb:=bM cc
 have q:IntKind.wrap .u8 (128 + qH cc)=128 + qH cc:=by
  have:∀ n:Int,IntKind.wrap .u8 n=n % 256:=i7
  rw [this];omega
 have s3:Sat (.of h) (h2.push (.cells [.int .u8 (15),.int .u8 (128 + qH cc)] 5)) (wR (.slice (some ⟨h2.next,0,none⟩) 2 4) [15,128 + qH cc] :: [pt b _]):=yp s2 [15,128 + qH cc] 4 (by decide)
 simp -implicitDefEqProofs only [EE,nth,Int.reduceEq,zq,zi,Z0,jS,jd,kx,qC,uI,uz,ve,wK,g2]
 refine zJ (by kernel_rfl) rfl (aW c0 c1 _) ?_
 simp -implicitDefEqProofs only [EE,xw,dJ,q]
 refine VY s3 (n:=4) rfl (by decide) fun v h' rn s4 => ?_
 refine Zj s4 (by simp [wm]) fun v3 h6 rn3 s6 => ?_
 simp -implicitDefEqProofs only [EE,rn3]
 exact fin s6 rfl
theorem EX (R:yk r) (c0:21<=cc) (c1:cc<=26) (w2:w9 h2) (s2:Sat (.of h) h2 [pt b (.cells (z8.row ⟨17,r,m,sub,cc,l,k⟩) 42)]):zS (.int .i64 17) (.pointer (some ⟨b,0,none⟩)) h2 (qP h (zw ⟨17,r,m,sub,cc,l,k⟩ 0)) J:=by
 have g2:=s2.get
 have l2:=s2.lt
 unfold zS
 have cb:=bM cc
 have q:IntKind.wrap .u8 (144 + qH cc)=144 + qH cc:=by
  have:∀ n:Int,IntKind.wrap .u8 n=n % 256:=i7
  rw [this];omega
 have s3:Sat (.of h) (h2.push (.cells [.int .u8 (15),.int .u8 (144 + qH cc)] 5)) (wR (.slice (some ⟨h2.next,0,none⟩) 2 4) [15,144 + qH cc] :: [pt b _]):=yp s2 [15,144 + qH cc] 4 (by decide)
 have gc:(cut (h2.push (.cells [.int .u8 15,.int .u8 (144 + qH cc)] 5)) h2.next (h2.next + 1)).get b=some (.cells (z8.row ⟨17,r,m,sub,cc,l,k⟩) 42):=uS (by rw [zQ l2];exact g2) l2
 simp -implicitDefEqProofs only [EE,nth,Int.reduceEq,zq,zi,Z0,kx,qC,uI,uz,ve,wK,g2]
 refine xW (by kernel_rfl) rfl (aW c0 c1 _) ?_
 simp -implicitDefEqProofs only [EE,zq,zi,xw,zC,ie,q,gc]
 refine Ji (.inr rfl) (by decide) R s3 (qL w2 _) (by simp) rfl (fun _ _ h=>h) (xx s3 NT) fun v h' w nx rn s4 => ?_
 have l4:b < h'.next:=(s4.p 2).lt
 have gc4:∀ o,(cut (cut (cut (h'.push o) h2.next (h2.next + 1)) (h2.next + 1) h'.next) h'.next (h'.next + 1)).get b=some (.cells (z8.row ⟨17,r,m,sub,cc,l,k⟩) 42):=fun o=>uS (uS (uS (by rw [zQ l4];exact (s4.p 2).get) l2) (O1 l2)) l4
 have s5:Sat (.of h) (h'.push (.cells [.int .u8 15,.int .u8 182] 5)) (wR (.slice (some ⟨h'.next,0,none⟩) 2 4) [15,182] :: _):=yp s4 [15,182] 4 (by decide)
 simp -implicitDefEqProofs only [EE,zq,zi,xw,zC,ic,gc4]
 refine Ji (.inl rfl) R R s5 (qL w _) (by decide) rfl (fun _ _ h=>h) (xx s5 NT) fun v5 h5 w5 nx5 rn5 s6 => ?_
 refine Zj (s6.f [0,2]) (by simp) fun v3 h6 rn3 s7 => ?_
 simp -implicitDefEqProofs only [EE,rn3]
 exact fin s7 rfl
theorem E0 (s2:Sat (.of h) h2 [pt b (.cells (z8.row ⟨20,r,m,sub,cc,l,k⟩) 42)]) (hJ:∀ vs,J vs h2):zS (.int .i64 20) (.pointer (some ⟨b,0,none⟩)) h2 (qP h (zw ⟨20,r,m,sub,cc,l,k⟩ 0)) J:=by
 unfold zS
 simp -implicitDefEqProofs only [EE,nth,Int.reduceEq,QB,WK,YT,ZP,jS,jd,kx,qC,uI,uz,ve,wK]
 exact hJ _
end
structure lp (x:z8):Prop where
 op:1<=x.op/\x.op<=26
 r:Go.As.mq x.op=true->yk x.r
 m:Go.As.Jg x.op=true->yk x.m
 Nu:x.op=7\/x.op=8->x.sub=11\/x.sub=12\/x.sub=13\/x.sub=16\/x.sub=17\/x.sub=18
 Nw:x.op=3\/x.op=4->x.sub=1\/x.sub=4\/x.sub=8
 un:x.op=9->x.sub=1\/x.sub=2
 ext:x.op=10->x.sub=3\/x.sub=4
 sh:x.op=11\/x.op=12->x.sub=19\/x.sub=20
 cc:x.op=17\/x.op=19->21<=x.cc/\x.cc<=26
section
variable {h:za} {x:z8}
theorem Gp (Y:lp x) (hx:9<=x.op /\ ¬ x.op=16 /\ ¬ x.op=23 /\ ¬ x.op=24):DC Tryz.prog 52 [x.val] h (qP h (zw x 0)):=by
 apply jY;intro wf
 apply rN
 unfold tS
 obtain ⟨op,r,m,sub,cc,l,k⟩:=x
 obtain ⟨Yop,YR,YM,Yalu,Ysiz,Yun,Yext,Ysh,Ycc⟩:=Y
 have s0:=Sat.self wf.2
 simp -implicitDefEqProofs only [EE,Value.cells]
 refine fw s0 wf fun b h2 w2 s2 => ?_
 have g2:=s2.get
 have wl:w9 h2:=w2
 simp -implicitDefEqProofs only [EE,↓z7,zq,zi,ze,g2]
 simp only at Yop YR YM Yalu Ysiz Yun Yext Ysh Ycc hx
 have:op=9\/op=10\/op=11\/op=12\/op=13\/op=14\/op=15\/op=17\/op=18\/op=19\/op=20\/op=21\/op=22\/op=25\/op=26:=by omega
 rcases this with rfl | rfl | rfl | rfl | rfl | rfl | rfl | rfl | rfl | rfl | rfl | rfl | rfl | rfl | rfl
 ·rcases Yun rfl with rfl | rfl
  ·exact CL (YR rfl) wl s2
  ·exact CM (YR rfl) wl s2
 ·rcases Yext rfl with rfl | rfl
  ·exact sR (YR rfl) (YM rfl) wl s2
  ·exact sS (YR rfl) (YM rfl) (by decide) wl s2
 ·rcases Ysh (.inl rfl) with rfl | rfl
  ·exact CH (YR rfl) wl s2
  ·exact CI (YR rfl) wl s2
 ·rcases Ysh (.inr rfl) with rfl | rfl
  ·exact CJ (YR rfl) wl s2
  ·exact CK (YR rfl) wl s2
 ·exact EU wl s2
 ·exact EV (YM rfl) wl s2
 ·exact EW (YR rfl) (YM rfl) wl s2
 ·exact EX (YR rfl) (Ycc (.inl rfl)).1 (Ycc (.inl rfl)).2 wl s2
 ·exact EY wl s2
 ·exact EZ (Ycc (.inr rfl)).1 (Ycc (.inr rfl)).2 wl s2
 ·refine E0 s2 fun vs => ?_
  exact fin (lZ s2) rfl
 ·exact E1 wl s2
 ·exact E2 wl s2
 ·exact E3 wl s2
 ·exact E4 wl s2
theorem Hg (Y:lp x):DC Tryz.prog 24 [x.val] h (qP h (zw x 0)):=by
 apply jY;intro wf
 apply Dj
 unfold GJ
 have Z:=Y
 have go:∀ {h2:za} {b:Nat} {J:List Value->za->Prop},Sat (.of h) h2 [pt b (.cells x.row 42)]->(9<=x.op /\ ¬ x.op=16 /\ ¬ x.op=23 /\ ¬ x.op=24)->(zH Tryz.prog (.func (.func 52) #[] #[]) [x.val] h2 (fun t200 h122=>rv [t200] h122 (qP h (zw x 0)))):=fun {h2 b J} s2 hx=>by
  refine vp (by kernel_rfl) rfl (Gp Y hx) ?_
  rintro v h3 s3
  have s4:=s2.join s3
  have vn:=xj s3
  simp -implicitDefEqProofs only [EE,vn]
  exact fin s4 rfl
 obtain ⟨op,r,m,sub,cc,l,k⟩:=x
 obtain ⟨Yop,YR,YM,Yalu,Ysiz,Yun,Yext,Ysh,Ycc⟩:=Z
 have s0:=Sat.self wf.2
 simp -implicitDefEqProofs only [EE,Value.cells]
 refine fw s0 wf fun b h2 w2 s2 => ?_
 have g2:=s2.get
 simp -implicitDefEqProofs only [EE,↓z7,jF,zq,zi,qf,ze,g2]
 simp only at Yop YR YM Yalu Ysiz Yun Yext Ysh Ycc go
 by_cases h1:op=1
 ·subst h1;exact LM (YR rfl) (YM rfl) w2 s2
 by_cases h2':op=2
 ·subst h2'
  by_cases hk:Go.Ar.uN k=true
  ·exact LN (YR rfl) hk w2 s2
  ·exact H8 (YR rfl) hk w2 s2
 by_cases h3:op=3
 ·subst h3
  rcases Ysiz (.inl rfl) with rfl | rfl | rfl
  ·exact FW (YR rfl) (YM rfl) w2 s2
  ·exact FX (YR rfl) (YM rfl) w2 s2
  ·exact FY (YR rfl) (YM rfl) w2 s2
 by_cases h4:op=4
 ·subst h4
  rcases Ysiz (.inr rfl) with rfl | rfl | rfl
  ·exact FZ (YR rfl) (YM rfl) w2 s2
  ·exact F3 (YR rfl) (YM rfl) w2 s2
  ·exact F4 (YR rfl) (YM rfl) w2 s2
 by_cases h5:op=5
 ·subst h5;exact LO (YR rfl) (YM rfl) w2 s2
 by_cases h6:op=6
 ·subst h6;exact LQ (YR rfl) w2 s2
 by_cases h7:op=7
 ·subst h7
  by_cases hs:sub=13
  ·subst hs;exact H9 (YR rfl) (YM rfl) w2 s2
  ·exact LR (YR rfl) (YM rfl) hs w2 s2
 by_cases h8:op=8
 ·subst h8
  by_cases hs:sub=13
  ·subst hs;exact Ia (YR rfl) w2 s2
  ·have:=Yalu (.inr rfl)
   exact LS (YR rfl) (by omega) w2 s2
 by_cases h16:op=16
 ·subst h16;exact H5 (YR rfl) w2 s2
 by_cases h23:op=23
 ·subst h23;exact H6 w2 s2
 by_cases h24:op=24
 ·subst h24;exact H7 w2 s2
 unfold yy
 simp -implicitDefEqProofs only [EE,N5,Nat.reduceAdd,du,KJ,VH,YP,Zv,jJ,jc,qe,ui,vN,h1,h2',h3,h4,h5,h6,h7,h8,h16,h23,h24,g2]
 exact go (J:=fun _ _=>True) s2 ⟨by omega,h16,h23,h24⟩
end
theorem FV {x:z8} (h:Go.Ar.xC x=true):lp x:=by
 unfold Go.Ar.xC at h
 simp only [ND,NN,NP] at h
 obtain ⟨a1,a2,a3,a4,a5,a6,a7⟩:=h
 unfold Go.Ar.Xg at a3
 unfold Go.Ar.XR at a4
 unfold Go.Ar.tailD at a7
 refine ⟨by omega,fun e => ?_,fun e => ?_,fun e => ?_,fun e => ?_,fun e => ?_,fun e => ?_,fun e => ?_,fun e => ?_⟩
 ·rw [e,OX,NN,OL,NP,NP] at a3
  unfold yk;omega
 ·rw [e,OX,NN,OL,NP,NP] at a4
  unfold yk;omega
 ·rcases e with e | e <;> (simp [e,Go.As.jw] at a7;omega)
 ·rcases e with e | e <;> (simp [e] at a7;omega)
 ·simp [e] at a7;omega
 ·simp [e] at a7;omega
 ·rcases e with e | e <;> (simp [e] at a7;omega)
 ·rcases e with e | e <;> (simp [e,Go.As.ZI] at a7;omega)
section
variable {lo:y5} {h:za} {L:List HP} {a b:Int} {K:Value->za->Prop}
theorem X8 (a0:0<=a/\a < 16) (b0:0<=b/\b < 16) (s:Sat lo h L) {z:Int} (k:∀ r h',ya r=false->Sat lo h' (wR r (YF a b z) :: L)->K r h') :
  zH Tryz.prog (.func (.func 58) #[] #[]) [.int .i64 a,.int .i64 b,.int .i64 z] h K:=by
 refine vp (by kernel_rfl) rfl (iE a0.1 a0.2 b0.1 b0.2 z) ?_
 rintro r h' s2
 exact k r h' (xj s2) (s.join s2)
theorem eG (a0:0<=a/\a < 16) (b0:0<=b/\b < 16) (s:Sat lo h L) (wf:w9 h) {z:Int} {hv:za} (vn:hv.next=h.next) (vg:∀ b o,hv.get b=some o->h.get b=some o) (k:∀ r h',w9 h'->ya r=false->Sat lo h' (wR r (YF a b z) :: L)->K r h') :
  qG Tryz.prog 58 [.int .i64 a,.int .i64 b,.int .i64 z] hv h K:=by
 refine KT (by kernel_rfl) rfl wf s vn vg (iE a0.1 a0.2 b0.1 b0.2 z) ?_
 rintro r h2 s2 gr w2
 exact k r _ w2 (xj s2) (gr _ s2)
theorem W6 (a m k:Int):(YF a m k).length<=6:=by
 have:=pT a m
 unfold YF
 rw [Oy,wm];omega
end
section
variable {h h2:za} {b:Nat} {r m sub cc l k d:Int} {J:List Value->za->Prop}
theorem ME (R:yk r) (M:yk m) (w2:w9 h2) (s2:Sat (.of h) h2 [pt b (.cells (z8.row ⟨1,r,m,sub,cc,l,k⟩) 42)]):zv (.int .i64 1) (.pointer (some ⟨b,0,none⟩)) h2 (.int .u8 (zo 72 m r)) (qP h (zw ⟨1,r,m,sub,cc,l,k⟩ d)) (.int .u8 (zo 72 0 r)) (.int .u8 (zo 72 r m)) (.int .i64 d) J:=by
 have g2:=s2.get
 have l2:=s2.lt
 unfold zv
 have s3:Sat (.of h) (h2.push (.cells [.int .u8 (zo 72 m r),.int .u8 (137),.int .u8 (xk m r)] 5)) (wR (.slice (some ⟨h2.next,0,none⟩) 3 5) [zo 72 m r,137,xk m r] :: [pt b _]):=yp s2 [zo 72 m r,137,xk m r] 5 (by decide)
 simp -implicitDefEqProofs only [EE,zq,zi,zC,zM,cL,g2]
 refine zJ (by kernel_rfl) rfl (ZE (a:=m) (b:=r) M.1 M.2 R.1 R.2 _) ?_
 simp -implicitDefEqProofs only [EE,yA]
 exact fin s3 rfl
theorem HF (R:yk r) (M:yk m) (w2:w9 h2) (s2:Sat (.of h) h2 [pt b (.cells (z8.row ⟨3,r,m,8,cc,l,k⟩) 42)]):zv (.int .i64 3) (.pointer (some ⟨b,0,none⟩)) h2 (.int .u8 (zo 72 m r)) (qP h (zw ⟨3,r,m,8,cc,l,k⟩ d)) (.int .u8 (zo 72 0 r)) (.int .u8 (zo 72 r m)) (.int .i64 d) J:=by
 have g2:=s2.get
 have l2:=s2.lt
 unfold zv
 have s3:Sat (.of h) (h2.push (.cells [.int .u8 (zo 72 r m),.int .u8 (139)] 5)) (wR (.slice (some ⟨h2.next,0,none⟩) 2 4) [zo 72 r m,139] :: [pt b _]):=yp s2 [zo 72 r m,139] 4 (by decide)
 simp -implicitDefEqProofs only [EE,↓z7,Int.reduceEq,zq,xA,zi,xw,zC,zM,zk,zu,gH,V7,yD,yw,g2,l2]
 refine X8 R M s3 fun v h' rn s4 => ?_
 refine Zj s4 (by have:=W6 r m k;simp;omega) fun v3 h6 rn3 s6 => ?_
 simp -implicitDefEqProofs only [EE,rn3]
 exact fin s6 rfl
theorem HE (R:yk r) (M:yk m) (w2:w9 h2) (s2:Sat (.of h) h2 [pt b (.cells (z8.row ⟨3,r,m,4,cc,l,k⟩) 42)]):zv (.int .i64 3) (.pointer (some ⟨b,0,none⟩)) h2 (.int .u8 (zo 72 m r)) (qP h (zw ⟨3,r,m,4,cc,l,k⟩ d)) (.int .u8 (zo 72 0 r)) (.int .u8 (zo 72 r m)) (.int .i64 d) J:=by
 have g2:=s2.get
 have l2:=s2.lt
 unfold zv
 have s3:Sat (.of h) (h2.push (.cells [.int .u8 (zo 72 r m),.int .u8 (99)] 5)) (wR (.slice (some ⟨h2.next,0,none⟩) 2 4) [zo 72 r m,99] :: [pt b _]):=yp s2 [zo 72 r m,99] 4 (by decide)
 simp -implicitDefEqProofs only [EE,↓z7,Int.reduceEq,zq,xA,zi,xw,zC,zM,zk,zu,gG,Jq,V7,yD,yw,g2,l2]
 refine X8 R M s3 fun v h' rn s4 => ?_
 refine Zj s4 (by have:=W6 r m k;simp;omega) fun v3 h6 rn3 s6 => ?_
 simp -implicitDefEqProofs only [EE,rn3]
 exact fin s6 rfl
theorem HD (R:yk r) (M:yk m) (w2:w9 h2) (s2:Sat (.of h) h2 [pt b (.cells (z8.row ⟨3,r,m,1,cc,l,k⟩) 42)]):zv (.int .i64 3) (.pointer (some ⟨b,0,none⟩)) h2 (.int .u8 (zo 72 m r)) (qP h (zw ⟨3,r,m,1,cc,l,k⟩ d)) (.int .u8 (zo 72 0 r)) (.int .u8 (zo 72 r m)) (.int .i64 d) J:=by
 have g2:=s2.get
 have l2:=s2.lt
 unfold zv
 have s3:Sat (.of h) (h2.push (.cells [.int .u8 (zo 72 r m),.int .u8 (15),.int .u8 (190)] 5)) (wR (.slice (some ⟨h2.next,0,none⟩) 3 5) [zo 72 r m,15,190] :: [pt b _]):=yp s2 [zo 72 r m,15,190] 5 (by decide)
 simp -implicitDefEqProofs only [EE,↓z7,Int.reduceEq,zq,xA,zi,yA,zC,zM,zk,zu,Jq,V7,gI,yD,yw,g2,l2]
 refine X8 R M s3 fun v h' rn s4 => ?_
 refine Zj s4 (by have:=W6 r m k;simp;omega) fun v3 h6 rn3 s6 => ?_
 simp -implicitDefEqProofs only [EE,rn3]
 exact fin s6 rfl
theorem HI (R:yk r) (M:yk m) (w2:w9 h2) (s2:Sat (.of h) h2 [pt b (.cells (z8.row ⟨4,r,m,8,cc,l,k⟩) 42)]):zv (.int .i64 4) (.pointer (some ⟨b,0,none⟩)) h2 (.int .u8 (zo 72 m r)) (qP h (zw ⟨4,r,m,8,cc,l,k⟩ d)) (.int .u8 (zo 72 0 r)) (.int .u8 (zo 72 r m)) (.int .i64 d) J:=by
 have g2:=s2.get
 have l2:=s2.lt
 unfold zv
 have s3:Sat (.of h) (h2.push (.cells [.int .u8 (zo 72 r m),.int .u8 (137)] 5)) (wR (.slice (some ⟨h2.next,0,none⟩) 2 4) [zo 72 r m,137] :: [pt b _]):=yp s2 [zo 72 r m,137] 4 (by decide)
 simp -implicitDefEqProofs only [EE,↓z7,Int.reduceEq,zq,xA,zi,xw,zC,zM,zk,zu,bY,Wp,xl,yD,yw,g2,l2]
 refine X8 R M s3 fun v h' rn s4 => ?_
 refine Zj s4 (by have:=W6 r m k;simp;omega) fun v3 h6 rn3 s6 => ?_
 simp -implicitDefEqProofs only [EE,rn3]
 exact fin s6 rfl
theorem MG (R:yk r) (M:yk m) (w2:w9 h2) (s2:Sat (.of h) h2 [pt b (.cells (z8.row ⟨5,r,m,sub,cc,l,k⟩) 42)]):zv (.int .i64 5) (.pointer (some ⟨b,0,none⟩)) h2 (.int .u8 (zo 72 m r)) (qP h (zw ⟨5,r,m,sub,cc,l,k⟩ d)) (.int .u8 (zo 72 0 r)) (.int .u8 (zo 72 r m)) (.int .i64 d) J:=by
 have g2:=s2.get
 have l2:=s2.lt
 unfold zv
 have s3:Sat (.of h) (h2.push (.cells [.int .u8 (zo 72 r m),.int .u8 (141)] 5)) (wR (.slice (some ⟨h2.next,0,none⟩) 2 4) [zo 72 r m,141] :: [pt b _]):=yp s2 [zo 72 r m,141] 4 (by decide)
 simp -implicitDefEqProofs only [EE,Int.reduceEq,zq,xA,zi,xw,zC,zM,zu,cK,xF,xl,yD,yw,g2,l2]
 refine X8 R M s3 fun v h' rn s4 => ?_
 refine Zj s4 (by have:=W6 r m k;simp;omega) fun v3 h6 rn3 s6 => ?_
 simp -implicitDefEqProofs only [EE,rn3]
 exact fin s6 rfl
theorem HH (R:yk r) (M:yk m) (w2:w9 h2) (s2:Sat (.of h) h2 [pt b (.cells (z8.row ⟨4,r,m,4,cc,l,k⟩) 42)]):zv (.int .i64 4) (.pointer (some ⟨b,0,none⟩)) h2 (.int .u8 (zo 72 m r)) (qP h (zw ⟨4,r,m,4,cc,l,k⟩ d)) (.int .u8 (zo 72 0 r)) (.int .u8 (zo 72 r m)) (.int .i64 d) J:=by
 have g2:=s2.get
 have l2:=s2.lt
 unfold zv
 have s3:Sat (.of h) (h2.push (.cells [.int .u8 (zo 64 r m),.int .u8 (137)] 5)) (wR (.slice (some ⟨h2.next,0,none⟩) 2 4) [zo 64 r m,137] :: [pt b _]):=yp s2 [zo 64 r m,137] 4 (by decide)
 have gc:(cut (h2.push (.cells [.int .u8 (zo 64 r m),.int .u8 137] 5)) h2.next (h2.next + 1)).get b=some (.cells (z8.row ⟨4,r,m,4,cc,l,k⟩) 42):=uS (by rw [zQ l2];exact g2) l2
 simp -implicitDefEqProofs only [EE,↓z7,Int.reduceEq,zq,zi,zC,zM,zk,bX,Qg,Wp,xl,yD,yw,g2]
 refine xW (by kernel_rfl) rfl (XN (.inr rfl) r m _) ?_
 simp -implicitDefEqProofs only [EE,zq,xA,zi,xw,zC,zM,zu,gJ,gc]
 refine eG R M s3 (qL w2 _) rfl (fun _ _=>XM) fun v h' w rn s4 => ?_
 refine XK (s4.f [1,0]) (fun q hq => ?_) (xx s4 NT) (by have:=W6 r m k;simp;omega) rn fun a n c h5 s5 => ?_
 ·simp only [Go.Rtl.QF,N7] at hq;subst hq;exact ⟨NG _,N0 _⟩
 ·simp -implicitDefEqProofs only [EE]
  exact fin s5 rfl
theorem HG (R:yk r) (M:yk m) (w2:w9 h2) (s2:Sat (.of h) h2 [pt b (.cells (z8.row ⟨4,r,m,1,cc,l,k⟩) 42)]):zv (.int .i64 4) (.pointer (some ⟨b,0,none⟩)) h2 (.int .u8 (zo 72 m r)) (qP h (zw ⟨4,r,m,1,cc,l,k⟩ d)) (.int .u8 (zo 72 0 r)) (.int .u8 (zo 72 r m)) (.int .i64 d) J:=by
 have g2:=s2.get
 have l2:=s2.lt
 unfold zv
 have s3:Sat (.of h) (h2.push (.cells [.int .u8 (zo 64 r m),.int .u8 (136)] 5)) (wR (.slice (some ⟨h2.next,0,none⟩) 2 4) [zo 64 r m,136] :: [pt b _]):=yp s2 [zo 64 r m,136] 4 (by decide)
 have gc:(cut (h2.push (.cells [.int .u8 (zo 64 r m),.int .u8 136] 5)) h2.next (h2.next + 1)).get b=some (.cells (z8.row ⟨4,r,m,1,cc,l,k⟩) 42):=uS (by rw [zQ l2];exact g2) l2
 simp -implicitDefEqProofs only [EE,↓z7,Int.reduceEq,zq,zi,zC,zM,zk,Qg,Wp,b7,xl,yD,yw,g2]
 refine xW (by kernel_rfl) rfl (XN (.inr rfl) r m _) ?_
 simp -implicitDefEqProofs only [EE,zq,xA,zi,xw,zC,zM,zu,bZ,gc]
 refine eG R M s3 (qL w2 _) rfl (fun _ _=>XM) fun v h' w rn s4 => ?_
 refine XK (s4.f [1,0]) (fun q hq => ?_) (xx s4 NT) (by have:=W6 r m k;simp;omega) rn fun a n c h5 s5 => ?_
 ·simp only [Go.Rtl.QF,N7] at hq;subst hq;exact ⟨NG _,N0 _⟩
 ·simp -implicitDefEqProofs only [EE]
  exact fin s5 rfl
theorem MF (R:yk r) (hk:Go.Ar.uN k=true) (w2:w9 h2) (s2:Sat (.of h) h2 [pt b (.cells (z8.row ⟨2,r,m,sub,cc,l,k⟩) 42)]):zv (.int .i64 2) (.pointer (some ⟨b,0,none⟩)) h2 (.int .u8 (zo 72 m r)) (qP h (zw ⟨2,r,m,sub,cc,l,k⟩ d)) (.int .u8 (zo 72 0 r)) (.int .u8 (zo 72 r m)) (.int .i64 d) J:=by
 have g2:=s2.get
 have l2:=s2.lt
 unfold zv
 have s3:Sat (.of h) (h2.push (.cells [.int .u8 (zo 72 0 r),.int .u8 (199),.int .u8 (xk 0 r)] 5)) (wR (.slice (some ⟨h2.next,0,none⟩) 3 5) [zo 72 0 r,199,xk 0 r] :: [pt b _]):=yp s2 [zo 72 0 r,199,xk 0 r] 5 (by decide)
 have gc:(cut (h2.push (.cells [.int .u8 (zo 72 0 r),.int .u8 199,.int .u8 (xk 0 r)] 5)) h2.next (h2.next + 1)).get b=some (.cells (z8.row ⟨2,r,m,sub,cc,l,k⟩) 42):=uS (by rw [zQ l2];exact g2) l2
 simp -implicitDefEqProofs only [EE,Int.reduceEq,zq,xA,zu,yw,g2]
 refine zJ (by kernel_rfl) rfl (Go.Ar.ZC k _) ?_
 rw [hk]
 simp -implicitDefEqProofs only [EE,zq,zi,zC,Jp,g2]
 refine xW (by kernel_rfl) rfl (ZE (a:=0) (b:=r) (show (0:Int)<=0/\(0:Int) < 16 by decide).1 (show (0:Int)<=0/\(0:Int) < 16 by decide).2 R.1 R.2 _) ?_
 simp -implicitDefEqProofs only [EE,zq,xA,yA,zu,gE,gc]
 refine JV s3 (qL w2 _) (n:=4) rfl (by decide) rfl (fun _ _=>XM) fun v h' w rn s4 => ?_
 refine XK (s4.f [1,0]) (fun q hq => ?_) (xx s4 NT) (by simp [wm]) rn fun a n c h5 s5 => ?_
 ·simp only [Go.Rtl.QF,N7] at hq;subst hq;exact ⟨NG _,N0 _⟩
 ·simp -implicitDefEqProofs only [EE]
  refine fin s5 ?_
  have e:zw ⟨2,r,m,sub,cc,l,k⟩ d=if Go.Ar.uN k=true then [zo 72 0 r,199,xk 0 r] ++ uG 4 k else [zo 72 0 r,184 + r % 8] ++ uG 8 k:=rfl
  rw [e,NK hk]
theorem I8 (R:yk r) (hk:¬ Go.Ar.uN k=true) (w2:w9 h2) (s2:Sat (.of h) h2 [pt b (.cells (z8.row ⟨2,r,m,sub,cc,l,k⟩) 42)]):zv (.int .i64 2) (.pointer (some ⟨b,0,none⟩)) h2 (.int .u8 (zo 72 m r)) (qP h (zw ⟨2,r,m,sub,cc,l,k⟩ d)) (.int .u8 (zo 72 0 r)) (.int .u8 (zo 72 r m)) (.int .i64 d) J:=by
 have g2:=s2.get
 have l2:=s2.lt
 unfold zv
 have hk0:Go.Ar.uN k=false:=by simpa using hk
 have q1:=U6 R.1 R.2
 have q2:IntKind.wrap .u8 (IntKind.wrap .i64 (184 + r % 8))=184 + r % 8:=by
  have:∀ n:Int,IntKind.wrap .u8 n=n % 256:=i7
  rw [this,Go.Mem.gC (by omega) (by omega)];omega
 have s3:Sat (.of h) (h2.push (.cells [.int .u8 (zo 72 0 r),.int .u8 (184 + r % 8)] 5)) (wR (.slice (some ⟨h2.next,0,none⟩) 2 4) [zo 72 0 r,184 + r % 8] :: [pt b _]):=yp s2 [zo 72 0 r,184 + r % 8] 4 (by decide)
 have gc:(cut (h2.push (.cells [.int .u8 (zo 72 0 r),.int .u8 (184 + r % 8)] 5)) h2.next (h2.next + 1)).get b=some (.cells (z8.row ⟨2,r,m,sub,cc,l,k⟩) 42):=uS (by rw [zQ l2];exact g2) l2
 simp -implicitDefEqProofs only [EE,Int.reduceEq,zq,xA,zu,yw,g2]
 refine zJ (by kernel_rfl) rfl (Go.Ar.ZC k _) ?_
 rw [hk0]
 simp -implicitDefEqProofs only [EE,zq,xA,zi,xw,WY,zC,zu,gF,Jp,g2,q1,q2,gc]
 refine JV s3 (qL w2 _) (n:=8) rfl (by decide) rfl (fun _ _=>XM) fun v h' w rn s4 => ?_
 refine XK (s4.f [1,0]) (fun q hq => ?_) (xx s4 NT) (by simp [wm]) rn fun a n c h5 s5 => ?_
 ·simp only [Go.Rtl.QF,N7] at hq;subst hq;exact ⟨NG _,N0 _⟩
 ·simp -implicitDefEqProofs only [EE]
  refine fin s5 ?_
  have e:zw ⟨2,r,m,sub,cc,l,k⟩ d=if Go.Ar.uN k=true then [zo 72 0 r,199,xk 0 r] ++ uG 4 k else [zo 72 0 r,184 + r % 8] ++ uG 8 k:=rfl
  rw [e,NJ hk]
theorem MH (R:yk r) (w2:w9 h2) (s2:Sat (.of h) h2 [pt b (.cells (z8.row ⟨6,r,m,sub,cc,l,k⟩) 42)]):zv (.int .i64 6) (.pointer (some ⟨b,0,none⟩)) h2 (.int .u8 (zo 72 m r)) (qP h (zw ⟨6,r,m,sub,cc,l,k⟩ d)) (.int .u8 (zo 72 0 r)) (.int .u8 (zo 72 r m)) (.int .i64 d) J:=by
 have g2:=s2.get
 have l2:=s2.lt
 unfold zv
 have q1:=U6 R.1 R.2
 have q2:IntKind.wrap .u8 (IntKind.wrap .i64 (BitVec.ofInt (IntKind.bits .i64) 5 ||| BitVec.ofInt (IntKind.bits .i64) (IntKind.wrap .i64 (r % 8 * 2 ^ (min 3 (IntKind.bits .i64))))).toNat)=5 + r % 8 * 8:=Ic (Wd r).1 (Wd r).2
 have s3:Sat (.of h) (h2.push (.cells [.int .u8 (zo 72 r 0),.int .u8 (141),.int .u8 (5 + r % 8 * 8)] 5)) (wR (.slice (some ⟨h2.next,0,none⟩) 3 5) [zo 72 r 0,141,5 + r % 8 * 8] :: [pt b _]):=yp s2 [zo 72 r 0,141,5 + r % 8 * 8] 5 (by decide)
 have gc:(cut (h2.push (.cells [.int .u8 (zo 72 r 0),.int .u8 141,.int .u8 (5 + r % 8 * 8)] 5)) h2.next (h2.next + 1)).get b=some (.cells (z8.row ⟨6,r,m,sub,cc,l,k⟩) 42):=uS (by rw [zQ l2];exact g2) l2
 simp -implicitDefEqProofs only [EE,Int.reduceEq,zq,zi,zC,cJ,xY,xF,xl,yD,yw,g2]
 refine xW (by kernel_rfl) rfl (XN (.inl rfl) r 0 _) ?_
 simp -implicitDefEqProofs only [EE,Int.reduceLE,Int.reduceToNat,zq,zi,yA,WY,zC,b9,g2,q1,q2]
 refine JV s3 (qL w2 _) (n:=4) rfl (by decide) rfl (fun _ _=>XM) fun v h' w rn s4 => ?_
 refine XK (s4.f [1,0]) (fun q hq => ?_) (xx s4 NT) (by simp [wm]) rn fun a n c h5 s5 => ?_
 ·simp only [Go.Rtl.QF,N7] at hq;subst hq;exact ⟨NG _,N0 _⟩
 ·simp -implicitDefEqProofs only [EE]
  exact fin s5 rfl
theorem I9 (R:yk r) (M:yk m) (w2:w9 h2) (s2:Sat (.of h) h2 [pt b (.cells (z8.row ⟨7,r,m,13,cc,l,k⟩) 42)]):zv (.int .i64 7) (.pointer (some ⟨b,0,none⟩)) h2 (.int .u8 (zo 72 m r)) (qP h (zw ⟨7,r,m,13,cc,l,k⟩ d)) (.int .u8 (zo 72 0 r)) (.int .u8 (zo 72 r m)) (.int .i64 d) J:=by
 have g2:=s2.get
 have l2:=s2.lt
 unfold zv
 have s3:Sat (.of h) (h2.push (.cells [.int .u8 (zo 72 r m),.int .u8 (15),.int .u8 (175),.int .u8 (xk r m)] 5)) (wR (.slice (some ⟨h2.next,0,none⟩) 4 6) [zo 72 r m,15,175,xk r m] :: [pt b _]):=yp s2 [zo 72 r m,15,175,xk r m] 6 (by decide)
 simp -implicitDefEqProofs only [EE,Int.reduceEq,zq,zi,zC,zM,zk,cd,Qo,x8,xY,xF,xl,yD,yw,g2]
 refine zJ (by kernel_rfl) rfl (ZE (a:=r) (b:=m) R.1 R.2 M.1 M.2 _) ?_
 simp -implicitDefEqProofs only [EE,jN,ca]
 exact fin s3 rfl
theorem MI (R:yk r) (M:yk m) (hs:¬ sub=13) (w2:w9 h2) (s2:Sat (.of h) h2 [pt b (.cells (z8.row ⟨7,r,m,sub,cc,l,k⟩) 42)]):zv (.int .i64 7) (.pointer (some ⟨b,0,none⟩)) h2 (.int .u8 (zo 72 m r)) (qP h (zw ⟨7,r,m,sub,cc,l,k⟩ d)) (.int .u8 (zo 72 0 r)) (.int .u8 (zo 72 r m)) (.int .i64 d) J:=by
 have g2:=s2.get
 have l2:=s2.lt
 unfold zv
 have s3:Sat (.of h) (h2.push (.cells [.int .u8 (zo 72 m r),.int .u8 (Go.En.jw sub),.int .u8 (xk m r)] 5)) (wR (.slice (some ⟨h2.next,0,none⟩) 3 5) [zo 72 m r,Go.En.jw sub,xk m r] :: [pt b _]):=yp s2 [zo 72 m r,Go.En.jw sub,xk m r] 5 (by decide)
 simp -implicitDefEqProofs only [EE,Int.reduceEq,zq,zi,zk,Qo,x8,xY,xF,xl,yD,yw,g2,hs]
 refine xW (by kernel_rfl) rfl (EL sub _) ?_
 simp -implicitDefEqProofs only [EE,zq,zi,zC,zM,ch,g2]
 refine xW (by kernel_rfl) rfl (ZE (a:=m) (b:=r) M.1 M.2 R.1 R.2 _) ?_
 simp -implicitDefEqProofs only [EE,yA]
 refine fin s3 ?_
 have e:zw ⟨7,r,m,sub,cc,l,k⟩ d=if sub=13 then [zo 72 r m,15,175,xk r m] else [zo 72 m r,Go.En.jw sub,xk m r]:=rfl
 rw [e,NJ hs]
theorem La (R:yk r) (w2:w9 h2) (s2:Sat (.of h) h2 [pt b (.cells (z8.row ⟨8,r,m,13,cc,l,k⟩) 42)]):zv (.int .i64 8) (.pointer (some ⟨b,0,none⟩)) h2 (.int .u8 (zo 72 m r)) (qP h (zw ⟨8,r,m,13,cc,l,k⟩ d)) (.int .u8 (zo 72 0 r)) (.int .u8 (zo 72 r m)) (.int .i64 d) J:=by
 have g2:=s2.get
 have l2:=s2.lt
 unfold zv
 have s3:Sat (.of h) (h2.push (.cells [.int .u8 (zo 72 r r),.int .u8 (105),.int .u8 (xk r r)] 5)) (wR (.slice (some ⟨h2.next,0,none⟩) 3 5) [zo 72 r r,105,xk r r] :: [pt b _]):=yp s2 [zo 72 r r,105,xk r r] 5 (by decide)
 have gc:(cut (h2.push (.cells [.int .u8 (zo 72 r r),.int .u8 105,.int .u8 (xk r r)] 5)) h2.next (h2.next + 1)).get b=some (.cells (z8.row ⟨8,r,m,13,cc,l,k⟩) 42):=uS (by rw [zQ l2];exact g2) l2
 simp -implicitDefEqProofs only [EE,Int.reduceEq,zq,zi,zC,zk,cm,Qn,wP,x8,xY,xF,xl,yD,yw,g2]
 refine xW (by kernel_rfl) rfl (XN (.inl rfl) r r _) ?_
 simp -implicitDefEqProofs only [EE,zq,zi,zC,ck,g2]
 refine xW (by kernel_rfl) rfl (ZE (a:=r) (b:=r) R.1 R.2 R.1 R.2 _) ?_
 simp -implicitDefEqProofs only [EE,zq,xA,yA,zu,cj,gc]
 refine JV s3 (qL w2 _) (n:=4) rfl (by decide) rfl (fun _ _=>XM) fun v h' w rn s4 => ?_
 refine XK (s4.f [1,0]) (fun q hq => ?_) (xx s4 NT) (by simp [wm]) rn fun a n c h5 s5 => ?_
 ·simp only [Go.Rtl.QF,N7] at hq;subst hq;exact ⟨NG _,N0 _⟩
 ·simp -implicitDefEqProofs only [EE]
  exact fin s5 rfl
theorem MJ (R:yk r) (hs:sub=11\/sub=12\/sub=16\/sub=17\/sub=18) (w2:w9 h2) (s2:Sat (.of h) h2 [pt b (.cells (z8.row ⟨8,r,m,sub,cc,l,k⟩) 42)]):zv (.int .i64 8) (.pointer (some ⟨b,0,none⟩)) h2 (.int .u8 (zo 72 m r)) (qP h (zw ⟨8,r,m,sub,cc,l,k⟩ d)) (.int .u8 (zo 72 0 r)) (.int .u8 (zo 72 r m)) (.int .i64 d) J:=by
 have g2:=s2.get
 have l2:=s2.lt
 unfold zv
 have hs0:¬ sub=13:=by omega
 have q:=oU hs
 have s3:Sat (.of h) (h2.push (.cells [.int .u8 (zo 72 0 r),.int .u8 (129),.int .u8 (xk (jE sub) r)] 5)) (wR (.slice (some ⟨h2.next,0,none⟩) 3 5) [zo 72 0 r,129,xk (jE sub) r] :: [pt b _]):=yp s2 [zo 72 0 r,129,xk (jE sub) r] 5 (by decide)
 have gc:(cut (h2.push (.cells [.int .u8 (zo 72 0 r),.int .u8 129,.int .u8 (xk (jE sub) r)] 5)) h2.next (h2.next + 1)).get b=some (.cells (z8.row ⟨8,r,m,sub,cc,l,k⟩) 42):=uS (by rw [zQ l2];exact g2) l2
 simp -implicitDefEqProofs only [EE,Int.reduceEq,zq,zi,zk,cr,Qn,wP,x8,xY,xF,xl,yD,yw,g2,hs0]
 refine xW (by kernel_rfl) rfl (FB sub _) ?_
 simp -implicitDefEqProofs only [EE,zq,zi,zC,g2]
 refine xW (by kernel_rfl) rfl (ZE (a:=jE sub) (b:=r) q.2.2.1 (by omega) R.1 R.2 _) ?_
 simp -implicitDefEqProofs only [EE,zq,xA,yA,zu,cq,gc]
 refine JV s3 (qL w2 _) (n:=4) rfl (by decide) rfl (fun _ _=>XM) fun v h' w rn s4 => ?_
 refine XK (s4.f [1,0]) (fun q hq => ?_) (xx s4 NT) (by simp [wm]) rn fun a n c h5 s5 => ?_
 ·simp only [Go.Rtl.QF,N7] at hq;subst hq;exact ⟨NG _,N0 _⟩
 ·simp -implicitDefEqProofs only [EE]
  refine fin s5 ?_
  have e:zw ⟨8,r,m,sub,cc,l,k⟩ d=if sub=13 then [zo 72 r r,105,xk r r] ++ uG 4 k else [zo 72 0 r,129,xk (jE sub) r] ++ uG 4 k:=rfl
  rw [e,NJ hs0]
theorem HK (R:yk r) (w2:w9 h2) (s2:Sat (.of h) h2 [pt b (.cells (z8.row ⟨9,r,m,2,cc,l,k⟩) 42)]):zv (.int .i64 9) (.pointer (some ⟨b,0,none⟩)) h2 (.int .u8 (zo 72 m r)) (qP h (zw ⟨9,r,m,2,cc,l,k⟩ d)) (.int .u8 (zo 72 0 r)) (.int .u8 (zo 72 r m)) (.int .i64 d) J:=by
 have g2:=s2.get
 have l2:=s2.lt
 unfold zv
 have s3:Sat (.of h) (h2.push (.cells [.int .u8 (zo 72 0 r),.int .u8 (247),.int .u8 (xk 2 r)] 5)) (wR (.slice (some ⟨h2.next,0,none⟩) 3 5) [zo 72 0 r,247,xk 2 r] :: [pt b _]):=yp s2 [zo 72 0 r,247,xk 2 r] 5 (by decide)
 simp -implicitDefEqProofs only [EE,Int.reduceEq,zq,zi,zC,zk,ct,Qm,vq,wP,x8,xY,xF,xl,yD,yw,g2]
 refine zJ (by kernel_rfl) rfl (ZE (a:=2) (b:=r) (show (0:Int)<=2/\(2:Int) < 16 by decide).1 (show (0:Int)<=2/\(2:Int) < 16 by decide).2 R.1 R.2 _) ?_
 simp -implicitDefEqProofs only [EE,yA]
 exact fin s3 rfl
theorem HJ (R:yk r) (w2:w9 h2) (s2:Sat (.of h) h2 [pt b (.cells (z8.row ⟨9,r,m,1,cc,l,k⟩) 42)]):zv (.int .i64 9) (.pointer (some ⟨b,0,none⟩)) h2 (.int .u8 (zo 72 m r)) (qP h (zw ⟨9,r,m,1,cc,l,k⟩ d)) (.int .u8 (zo 72 0 r)) (.int .u8 (zo 72 r m)) (.int .i64 d) J:=by
 have g2:=s2.get
 have l2:=s2.lt
 unfold zv
 have s3:Sat (.of h) (h2.push (.cells [.int .u8 (zo 72 0 r),.int .u8 (247),.int .u8 (xk 3 r)] 5)) (wR (.slice (some ⟨h2.next,0,none⟩) 3 5) [zo 72 0 r,247,xk 3 r] :: [pt b _]):=yp s2 [zo 72 0 r,247,xk 3 r] 5 (by decide)
 simp -implicitDefEqProofs only [EE,Int.reduceEq,zq,zi,zC,zk,cu,Qm,vq,wP,x8,xY,xF,xl,yD,yw,g2]
 refine zJ (by kernel_rfl) rfl (ZE (a:=3) (b:=r) (show (0:Int)<=3/\(3:Int) < 16 by decide).1 (show (0:Int)<=3/\(3:Int) < 16 by decide).2 R.1 R.2 _) ?_
 simp -implicitDefEqProofs only [EE,yA]
 exact fin s3 rfl
theorem Fx (R:yk r) (M:yk m) (w2:w9 h2) (s2:Sat (.of h) h2 [pt b (.cells (z8.row ⟨10,r,m,3,cc,l,k⟩) 42)]):zv (.int .i64 10) (.pointer (some ⟨b,0,none⟩)) h2 (.int .u8 (zo 72 m r)) (qP h (zw ⟨10,r,m,3,cc,l,k⟩ d)) (.int .u8 (zo 72 0 r)) (.int .u8 (zo 72 r m)) (.int .i64 d) J:=by
 have g2:=s2.get
 have l2:=s2.lt
 unfold zv
 have s3:Sat (.of h) (h2.push (.cells [.int .u8 (zo 72 r m),.int .u8 (15),.int .u8 (190),.int .u8 (xk r m)] 5)) (wR (.slice (some ⟨h2.next,0,none⟩) 4 6) [zo 72 r m,15,190,xk r m] :: [pt b _]):=yp s2 [zo 72 r m,15,190,xk r m] 6 (by decide)
 simp -implicitDefEqProofs only [EE,Int.reduceEq,zq,zi,zC,zM,zk,cx,Ql,vY,vq,wP,x8,xY,xF,xl,yD,yw,g2]
 refine zJ (by kernel_rfl) rfl (ZE (a:=r) (b:=m) R.1 R.2 M.1 M.2 _) ?_
 simp -implicitDefEqProofs only [EE,jN,cw]
 exact fin s3 rfl
theorem Fy (R:yk r) (M:yk m) (hs:¬ sub=3) (w2:w9 h2) (s2:Sat (.of h) h2 [pt b (.cells (z8.row ⟨10,r,m,sub,cc,l,k⟩) 42)]):zv (.int .i64 10) (.pointer (some ⟨b,0,none⟩)) h2 (.int .u8 (zo 72 m r)) (qP h (zw ⟨10,r,m,sub,cc,l,k⟩ d)) (.int .u8 (zo 72 0 r)) (.int .u8 (zo 72 r m)) (.int .i64 d) J:=by
 have g2:=s2.get
 have l2:=s2.lt
 unfold zv
 have s3:Sat (.of h) (h2.push (.cells [.int .u8 (zo 72 r m),.int .u8 (99),.int .u8 (xk r m)] 5)) (wR (.slice (some ⟨h2.next,0,none⟩) 3 5) [zo 72 r m,99,xk r m] :: [pt b _]):=yp s2 [zo 72 r m,99,xk r m] 5 (by decide)
 simp -implicitDefEqProofs only [EE,Int.reduceEq,zq,zi,zC,zM,zk,cy,Ql,vY,vq,wP,x8,xY,xF,xl,yD,yw,g2,hs]
 refine zJ (by kernel_rfl) rfl (ZE (a:=r) (b:=m) R.1 R.2 M.1 M.2 _) ?_
 simp -implicitDefEqProofs only [EE,yA]
 refine fin s3 ?_
 have e:zw ⟨10,r,m,sub,cc,l,k⟩ d=if sub=3 then [zo 72 r m,15,190,xk r m] else [zo 72 r m,99,xk r m]:=rfl
 rw [e,NJ hs]
theorem Hz (R:yk r) (w2:w9 h2) (s2:Sat (.of h) h2 [pt b (.cells (z8.row ⟨11,r,m,19,cc,l,k⟩) 42)]):zv (.int .i64 11) (.pointer (some ⟨b,0,none⟩)) h2 (.int .u8 (zo 72 m r)) (qP h (zw ⟨11,r,m,19,cc,l,k⟩ d)) (.int .u8 (zo 72 0 r)) (.int .u8 (zo 72 r m)) (.int .i64 d) J:=by
 have g2:=s2.get
 have l2:=s2.lt
 unfold zv
 have s3:Sat (.of h) (h2.push (.cells [.int .u8 (zo 72 0 r),.int .u8 (193),.int .u8 (xk 4 r),.int .u8 (IntKind.wrap .u8 k)] 5)) (wR (.slice (some ⟨h2.next,0,none⟩) 4 6) [zo 72 0 r,193,xk 4 r,IntKind.wrap .u8 k] :: [pt b _]):=yp s2 [zo 72 0 r,193,xk 4 r,IntKind.wrap .u8 k] 6 (by decide)
 simp -implicitDefEqProofs only [EE,Int.reduceEq,zq,zi,zk,Qk,uH,vY,vq,wP,x8,xY,xF,xl,yD,yw,g2]
 refine xW (by kernel_rfl) rfl (bT (s:=19) (by decide) _) ?_
 simp -implicitDefEqProofs only [EE,zq,zi,zC,g2]
 refine xW (by kernel_rfl) rfl (ZE (a:=uM 19) (b:=r) (show (0:Int)<=uM 19/\(uM 19:Int) < 16 by decide).1 (show (0:Int)<=uM 19/\(uM 19:Int) < 16 by decide).2 R.1 R.2 _) ?_
 simp -implicitDefEqProofs only [EE,zq,xA,jN,QJ,zu,Qh,g2]
 exact fin s3 rfl
theorem HB (R:yk r) (w2:w9 h2) (s2:Sat (.of h) h2 [pt b (.cells (z8.row ⟨12,r,m,19,cc,l,k⟩) 42)]):zv (.int .i64 12) (.pointer (some ⟨b,0,none⟩)) h2 (.int .u8 (zo 72 m r)) (qP h (zw ⟨12,r,m,19,cc,l,k⟩ d)) (.int .u8 (zo 72 0 r)) (.int .u8 (zo 72 r m)) (.int .i64 d) J:=by
 have g2:=s2.get
 have l2:=s2.lt
 unfold zv
 have s3:Sat (.of h) (h2.push (.cells [.int .u8 (zo 72 0 r),.int .u8 (211),.int .u8 (xk 4 r)] 5)) (wR (.slice (some ⟨h2.next,0,none⟩) 3 5) [zo 72 0 r,211,xk 4 r] :: [pt b _]):=yp s2 [zo 72 0 r,211,xk 4 r] 5 (by decide)
 simp -implicitDefEqProofs only [EE,Int.reduceEq,zq,zi,zk,kh,uH,vY,vq,wP,x8,xY,xF,xl,yD,yw,g2]
 refine xW (by kernel_rfl) rfl (bT (s:=19) (by decide) _) ?_
 simp -implicitDefEqProofs only [EE,zq,zi,zC,Qi,g2]
 refine xW (by kernel_rfl) rfl (ZE (a:=uM 19) (b:=r) (show (0:Int)<=uM 19/\(uM 19:Int) < 16 by decide).1 (show (0:Int)<=uM 19/\(uM 19:Int) < 16 by decide).2 R.1 R.2 _) ?_
 simp -implicitDefEqProofs only [EE,yA]
 exact fin s3 rfl
theorem HA (R:yk r) (w2:w9 h2) (s2:Sat (.of h) h2 [pt b (.cells (z8.row ⟨11,r,m,20,cc,l,k⟩) 42)]):zv (.int .i64 11) (.pointer (some ⟨b,0,none⟩)) h2 (.int .u8 (zo 72 m r)) (qP h (zw ⟨11,r,m,20,cc,l,k⟩ d)) (.int .u8 (zo 72 0 r)) (.int .u8 (zo 72 r m)) (.int .i64 d) J:=by
 have g2:=s2.get
 have l2:=s2.lt
 unfold zv
 have s3:Sat (.of h) (h2.push (.cells [.int .u8 (zo 72 0 r),.int .u8 (193),.int .u8 (xk 7 r),.int .u8 (IntKind.wrap .u8 k)] 5)) (wR (.slice (some ⟨h2.next,0,none⟩) 4 6) [zo 72 0 r,193,xk 7 r,IntKind.wrap .u8 k] :: [pt b _]):=yp s2 [zo 72 0 r,193,xk 7 r,IntKind.wrap .u8 k] 6 (by decide)
 simp -implicitDefEqProofs only [EE,Int.reduceEq,zq,zi,zk,Qk,uH,vY,vq,wP,x8,xY,xF,xl,yD,yw,g2]
 refine xW (by kernel_rfl) rfl (bT (s:=20) (by decide) _) ?_
 simp -implicitDefEqProofs only [EE,zq,zi,zC,g2]
 refine xW (by kernel_rfl) rfl (ZE (a:=uM 20) (b:=r) (show (0:Int)<=uM 20/\(uM 20:Int) < 16 by decide).1 (show (0:Int)<=uM 20/\(uM 20:Int) < 16 by decide).2 R.1 R.2 _) ?_
 simp -implicitDefEqProofs only [EE,zq,xA,jN,QJ,zu,Qh,g2]
 exact fin s3 rfl
theorem HC (R:yk r) (w2:w9 h2) (s2:Sat (.of h) h2 [pt b (.cells (z8.row ⟨12,r,m,20,cc,l,k⟩) 42)]):zv (.int .i64 12) (.pointer (some ⟨b,0,none⟩)) h2 (.int .u8 (zo 72 m r)) (qP h (zw ⟨12,r,m,20,cc,l,k⟩ d)) (.int .u8 (zo 72 0 r)) (.int .u8 (zo 72 r m)) (.int .i64 d) J:=by
 have g2:=s2.get
 have l2:=s2.lt
 unfold zv
 have s3:Sat (.of h) (h2.push (.cells [.int .u8 (zo 72 0 r),.int .u8 (211),.int .u8 (xk 7 r)] 5)) (wR (.slice (some ⟨h2.next,0,none⟩) 3 5) [zo 72 0 r,211,xk 7 r] :: [pt b _]):=yp s2 [zo 72 0 r,211,xk 7 r] 5 (by decide)
 simp -implicitDefEqProofs only [EE,Int.reduceEq,zq,zi,zk,kh,uH,vY,vq,wP,x8,xY,xF,xl,yD,yw,g2]
 refine xW (by kernel_rfl) rfl (bT (s:=20) (by decide) _) ?_
 simp -implicitDefEqProofs only [EE,zq,zi,zC,Qi,g2]
 refine xW (by kernel_rfl) rfl (ZE (a:=uM 20) (b:=r) (show (0:Int)<=uM 20/\(uM 20:Int) < 16 by decide).1 (show (0:Int)<=uM 20/\(uM 20:Int) < 16 by decide).2 R.1 R.2 _) ?_
 simp -implicitDefEqProofs only [EE,yA]
 exact fin s3 rfl
theorem I3  (w2:w9 h2) (s2:Sat (.of h) h2 [pt b (.cells (z8.row ⟨13,r,m,sub,cc,l,k⟩) 42)]):zv (.int .i64 13) (.pointer (some ⟨b,0,none⟩)) h2 (.int .u8 (zo 72 m r)) (qP h (zw ⟨13,r,m,sub,cc,l,k⟩ d)) (.int .u8 (zo 72 0 r)) (.int .u8 (zo 72 r m)) (.int .i64 d) J:=by
 have g2:=s2.get
 have l2:=s2.lt
 unfold zv
 have s3:Sat (.of h) (h2.push (.cells [.int .u8 72,.int .u8 153] 5)) (wR (.slice (some ⟨h2.next,0,none⟩) 2 4) [72,153] :: [pt b _]):=yp s2 [72,153] 4 (by decide)
 simp -implicitDefEqProofs only [EE,Int.reduceEq,xw,jR,kh,uH,vY,vq,wP,x8,xY,xF,xl,yD,yw]
 exact fin s3 rfl
theorem I4 (M:yk m) (w2:w9 h2) (s2:Sat (.of h) h2 [pt b (.cells (z8.row ⟨14,r,m,sub,cc,l,k⟩) 42)]):zv (.int .i64 14) (.pointer (some ⟨b,0,none⟩)) h2 (.int .u8 (zo 72 m r)) (qP h (zw ⟨14,r,m,sub,cc,l,k⟩ d)) (.int .u8 (zo 72 0 r)) (.int .u8 (zo 72 r m)) (.int .i64 d) J:=by
 have g2:=s2.get
 have l2:=s2.lt
 unfold zv
 have s3:Sat (.of h) (h2.push (.cells [.int .u8 (zo 72 0 m),.int .u8 (247),.int .u8 (xk 7 m)] 5)) (wR (.slice (some ⟨h2.next,0,none⟩) 3 5) [zo 72 0 m,247,xk 7 m] :: [pt b _]):=yp s2 [zo 72 0 m,247,xk 7 m] 5 (by decide)
 simp -implicitDefEqProofs only [EE,Int.reduceEq,zq,zi,zM,cI,ZL,jR,kh,uH,vY,vq,wP,x8,xY,xF,xl,yD,yw,g2]
 refine xW (by kernel_rfl) rfl (XN (.inl rfl) 0 m _) ?_
 simp -implicitDefEqProofs only [EE,zq,zi,zM,cA,g2]
 refine xW (by kernel_rfl) rfl (ZE (a:=7) (b:=m) (show (0:Int)<=7/\(7:Int) < 16 by decide).1 (show (0:Int)<=7/\(7:Int) < 16 by decide).2 M.1 M.2 _) ?_
 simp -implicitDefEqProofs only [EE,yA]
 exact fin s3 rfl
theorem I5 (R:yk r) (M:yk m) (w2:w9 h2) (s2:Sat (.of h) h2 [pt b (.cells (z8.row ⟨15,r,m,sub,cc,l,k⟩) 42)]):zv (.int .i64 15) (.pointer (some ⟨b,0,none⟩)) h2 (.int .u8 (zo 72 m r)) (qP h (zw ⟨15,r,m,sub,cc,l,k⟩ d)) (.int .u8 (zo 72 0 r)) (.int .u8 (zo 72 r m)) (.int .i64 d) J:=by
 have g2:=s2.get
 have l2:=s2.lt
 unfold zv
 have s3:Sat (.of h) (h2.push (.cells [.int .u8 (zo 72 m r),.int .u8 (57),.int .u8 (xk m r)] 5)) (wR (.slice (some ⟨h2.next,0,none⟩) 3 5) [zo 72 m r,57,xk m r] :: [pt b _]):=yp s2 [zo 72 m r,57,xk m r] 5 (by decide)
 simp -implicitDefEqProofs only [EE,Int.reduceEq,zq,zi,zC,zM,cH,YN,ZL,jR,kh,uH,vY,vq,wP,x8,xY,xF,xl,yD,yw,g2]
 refine zJ (by kernel_rfl) rfl (ZE (a:=m) (b:=r) M.1 M.2 R.1 R.2 _) ?_
 simp -implicitDefEqProofs only [EE,yA]
 exact fin s3 rfl
theorem I6 (R:yk r) (w2:w9 h2) (s2:Sat (.of h) h2 [pt b (.cells (z8.row ⟨16,r,m,sub,cc,l,k⟩) 42)]):zv (.int .i64 16) (.pointer (some ⟨b,0,none⟩)) h2 (.int .u8 (zo 72 m r)) (qP h (zw ⟨16,r,m,sub,cc,l,k⟩ d)) (.int .u8 (zo 72 0 r)) (.int .u8 (zo 72 r m)) (.int .i64 d) J:=by
 have g2:=s2.get
 have l2:=s2.lt
 unfold zv
 have s3:Sat (.of h) (h2.push (.cells [.int .u8 (zo 72 0 r),.int .u8 (129),.int .u8 (xk 7 r)] 5)) (wR (.slice (some ⟨h2.next,0,none⟩) 3 5) [zo 72 0 r,129,xk 7 r] :: [pt b _]):=yp s2 [zo 72 0 r,129,xk 7 r] 5 (by decide)
 have gc:(cut (h2.push (.cells [.int .u8 (zo 72 0 r),.int .u8 129,.int .u8 (xk 7 r)] 5)) h2.next (h2.next + 1)).get b=some (.cells (z8.row ⟨16,r,m,sub,cc,l,k⟩) 42):=uS (by rw [zQ l2];exact g2) l2
 simp -implicitDefEqProofs only [EE,Int.reduceEq,zq,zi,zC,Wq,YN,ZL,jR,kh,uH,vY,vq,wP,x8,xY,xF,xl,yD,yw,g2]
 refine xW (by kernel_rfl) rfl (ZE (a:=7) (b:=r) (show (0:Int)<=7/\(7:Int) < 16 by decide).1 (show (0:Int)<=7/\(7:Int) < 16 by decide).2 R.1 R.2 _) ?_
 simp -implicitDefEqProofs only [EE,zq,xA,yA,zu,cB,gc]
 refine JV s3 (qL w2 _) (n:=4) rfl (by decide) rfl (fun _ _=>XM) fun v h' w rn s4 => ?_
 refine XK (s4.f [1,0]) (fun q hq => ?_) (xx s4 NT) (by simp [wm]) rn fun a n c h5 s5 => ?_
 ·simp only [Go.Rtl.QF,N7] at hq;subst hq;exact ⟨NG _,N0 _⟩
 ·simp -implicitDefEqProofs only [EE]
  exact fin s5 rfl
theorem I7 (R:yk r) (c0:21<=cc) (c1:cc<=26) (w2:w9 h2) (s2:Sat (.of h) h2 [pt b (.cells (z8.row ⟨17,r,m,sub,cc,l,k⟩) 42)]):zv (.int .i64 17) (.pointer (some ⟨b,0,none⟩)) h2 (.int .u8 (zo 72 m r)) (qP h (zw ⟨17,r,m,sub,cc,l,k⟩ d)) (.int .u8 (zo 72 0 r)) (.int .u8 (zo 72 r m)) (.int .i64 d) J:=by
 have g2:=s2.get
 have l2:=s2.lt
 unfold zv
 have cb:=bM cc
 have q:IntKind.wrap .u8 (144 + qH cc)=144 + qH cc:=by
  have:∀ n:Int,IntKind.wrap .u8 n=n % 256:=i7
  rw [this];omega
 have s3:Sat (.of h) (h2.push (.cells [.int .u8 (zo 64 0 r),.int .u8 (15),.int .u8 (144 + qH cc),.int .u8 (xk 0 r),.int .u8 (zo 72 r r),.int .u8 (15),.int .u8 (182),.int .u8 (xk r r)] 5)) (wR (.slice (some ⟨h2.next,0,none⟩) 8 10) [zo 64 0 r,15,144 + qH cc,xk 0 r,zo 72 r r,15,182,xk r r] :: [pt b _]):=yp s2 [zo 64 0 r,15,144 + qH cc,xk 0 r,zo 72 r r,15,182,xk r r] 10 (by decide)
 simp -implicitDefEqProofs only [EE,Int.reduceEq,zq,zi,zC,cG,Qj,Wq,YN,ZL,jR,kh,uH,vY,vq,wP,x8,xY,xF,xl,yD,yw,g2]
 refine xW (by kernel_rfl) rfl (XN (.inr rfl) 0 r _) ?_
 simp -implicitDefEqProofs only [EE,zq,zi,Z0,g2]
 refine xW (by kernel_rfl) rfl (DY c0 c1 _) ?_
 simp -implicitDefEqProofs only [EE,zq,zi,zC,cF,g2,q]
 refine xW (by kernel_rfl) rfl (ZE (a:=0) (b:=r) (show (0:Int)<=0/\(0:Int) < 16 by decide).1 (show (0:Int)<=0/\(0:Int) < 16 by decide).2 R.1 R.2 _) ?_
 simp -implicitDefEqProofs only [EE,zq,zi,zC,cE,g2]
 refine xW (by kernel_rfl) rfl (XN (.inl rfl) r r _) ?_
 simp -implicitDefEqProofs only [EE,zq,zi,zC,cD,g2]
 refine xW (by kernel_rfl) rfl (ZE (a:=r) (b:=r) R.1 R.2 R.1 R.2 _) ?_
 simp -implicitDefEqProofs only [EE,X7,cC]
 exact fin s3 rfl
end
section
variable {h h2:za} {b:Nat} {r m sub cc l k d:Int} {J:List Value->za->Prop}
theorem Gf  (s2:Sat (.of h) h2 [pt b (.cells (z8.row ⟨18,r,m,sub,cc,l,k⟩) 42)]):wY (.int .i64 18) h2 (.int .i64 d) (qP h (zw ⟨18,r,m,sub,cc,l,k⟩ d)) (.pointer (some ⟨b,0,none⟩)) J:=by
 have g2:=s2.get
 have l2:=s2.lt
 unfold wY
 have s3:Sat (.of h) (h2.push (.cells [.int .u8 233] 5)) (wR (.slice (some ⟨h2.next,0,none⟩) 1 3) [233] :: [pt b _]):=yp s2 [233] 3 (by decide)
 simp -implicitDefEqProofs only [EE,yf,hZ]
 refine pA s3 (n:=4) rfl (by decide) fun v h' rn s4 => ?_
 refine Zj s4 (by simp [wm]) fun v3 h6 rn3 s6 => ?_
 simp -implicitDefEqProofs only [EE,rn3]
 exact fin s6 rfl
theorem Gg (c0:21<=cc) (c1:cc<=26) (s2:Sat (.of h) h2 [pt b (.cells (z8.row ⟨19,r,m,sub,cc,l,k⟩) 42)]):wY (.int .i64 19) h2 (.int .i64 d) (qP h (zw ⟨19,r,m,sub,cc,l,k⟩ d)) (.pointer (some ⟨b,0,none⟩)) J:=by
 have g2:=s2.get
 have l2:=s2.lt
 unfold wY
 have cb:=bM cc
 have q:IntKind.wrap .u8 (128 + qH cc)=128 + qH cc:=by
  have:∀ n:Int,IntKind.wrap .u8 n=n % 256:=i7
  rw [this];omega
 have s3:Sat (.of h) (h2.push (.cells [.int .u8 (15),.int .u8 (128 + qH cc)] 5)) (wR (.slice (some ⟨h2.next,0,none⟩) 2 4) [15,128 + qH cc] :: [pt b _]):=yp s2 [15,128 + qH cc] 4 (by decide)
 simp -implicitDefEqProofs only [EE,Int.reduceEq,zq,zi,Z0,ju,g2]
 refine zJ (by kernel_rfl) rfl (DY c0 c1 _) ?_
 simp -implicitDefEqProofs only [EE,xw,n9,q]
 refine pA s3 (n:=4) rfl (by decide) fun v h' rn s4 => ?_
 refine Zj s4 (by simp [wm]) fun v3 h6 rn3 s6 => ?_
 simp -implicitDefEqProofs only [EE,rn3]
 exact fin s6 rfl
theorem Gi  (s2:Sat (.of h) h2 [pt b (.cells (z8.row ⟨21,r,m,sub,cc,l,k⟩) 42)]):wY (.int .i64 21) h2 (.int .i64 d) (qP h (zw ⟨21,r,m,sub,cc,l,k⟩ d)) (.pointer (some ⟨b,0,none⟩)) J:=by
 have g2:=s2.get
 have l2:=s2.lt
 unfold wY
 have s3:Sat (.of h) (h2.push (.cells [.int .u8 232] 5)) (wR (.slice (some ⟨h2.next,0,none⟩) 1 3) [232] :: [pt b _]):=yp s2 [232] 3 (by decide)
 simp -implicitDefEqProofs only [EE,Int.reduceEq,yf,oe,Zg,ju]
 refine pA s3 (n:=4) rfl (by decide) fun v h' rn s4 => ?_
 refine Zj s4 (by simp [wm]) fun v3 h6 rn3 s6 => ?_
 simp -implicitDefEqProofs only [EE,rn3]
 exact fin s6 rfl
theorem Gj  (s2:Sat (.of h) h2 [pt b (.cells (z8.row ⟨22,r,m,sub,cc,l,k⟩) 42)]):wY (.int .i64 22) h2 (.int .i64 d) (qP h (zw ⟨22,r,m,sub,cc,l,k⟩ d)) (.pointer (some ⟨b,0,none⟩)) J:=by
 have g2:=s2.get
 have l2:=s2.lt
 unfold wY
 have s3:Sat (.of h) (h2.push (.cells [.int .u8 195] 5)) (wR (.slice (some ⟨h2.next,0,none⟩) 1 3) [195] :: [pt b _]):=yp s2 [195] 3 (by decide)
 simp -implicitDefEqProofs only [EE,Int.reduceEq,yf,YS,Zg,ju]
 exact fin s3 rfl
theorem Gk  (s2:Sat (.of h) h2 [pt b (.cells (z8.row ⟨23,r,m,sub,cc,l,k⟩) 42)]):wY (.int .i64 23) h2 (.int .i64 d) (qP h (zw ⟨23,r,m,sub,cc,l,k⟩ d)) (.pointer (some ⟨b,0,none⟩)) J:=by
 have g2:=s2.get
 have l2:=s2.lt
 unfold wY
 have s3:Sat (.of h) (h2.push (.cells [.int .u8 72,.int .u8 129,.int .u8 236] 5)) (wR (.slice (some ⟨h2.next,0,none⟩) 3 5) [72,129,236] :: [pt b _]):=yp s2 [72,129,236] 5 (by decide)
 simp -implicitDefEqProofs only [EE,Int.reduceEq,zq,xA,yA,zu,od,X1,YS,Zg,ju,g2,l2]
 refine pA s3 (n:=4) rfl (by decide) fun v h' rn s4 => ?_
 refine Zj s4 (by simp [wm]) fun v3 h6 rn3 s6 => ?_
 simp -implicitDefEqProofs only [EE,rn3]
 exact fin s6 rfl
theorem Gl  (s2:Sat (.of h) h2 [pt b (.cells (z8.row ⟨24,r,m,sub,cc,l,k⟩) 42)]):wY (.int .i64 24) h2 (.int .i64 d) (qP h (zw ⟨24,r,m,sub,cc,l,k⟩ d)) (.pointer (some ⟨b,0,none⟩)) J:=by
 have g2:=s2.get
 have l2:=s2.lt
 unfold wY
 have s3:Sat (.of h) (h2.push (.cells [.int .u8 72,.int .u8 129,.int .u8 196] 5)) (wR (.slice (some ⟨h2.next,0,none⟩) 3 5) [72,129,196] :: [pt b _]):=yp s2 [72,129,196] 5 (by decide)
 simp -implicitDefEqProofs only [EE,Int.reduceEq,zq,xA,yA,zu,oc,VI,X1,YS,Zg,ju,g2,l2]
 refine pA s3 (n:=4) rfl (by decide) fun v h' rn s4 => ?_
 refine Zj s4 (by simp [wm]) fun v3 h6 rn3 s6 => ?_
 simp -implicitDefEqProofs only [EE,rn3]
 exact fin s6 rfl
theorem Gm  (s2:Sat (.of h) h2 [pt b (.cells (z8.row ⟨25,r,m,sub,cc,l,k⟩) 42)]):wY (.int .i64 25) h2 (.int .i64 d) (qP h (zw ⟨25,r,m,sub,cc,l,k⟩ d)) (.pointer (some ⟨b,0,none⟩)) J:=by
 have g2:=s2.get
 have l2:=s2.lt
 unfold wY
 have s3:Sat (.of h) (h2.push (.cells [.int .u8 72,.int .u8 237] 5)) (wR (.slice (some ⟨h2.next,0,none⟩) 2 4) [72,237] :: [pt b _]):=yp s2 [72,237] 4 (by decide)
 simp -implicitDefEqProofs only [EE,Int.reduceEq,xw,KK,VI,X1,YS,Zg,ju]
 exact fin s3 rfl
theorem Gn  (s2:Sat (.of h) h2 [pt b (.cells (z8.row ⟨26,r,m,sub,cc,l,k⟩) 42)]):wY (.int .i64 26) h2 (.int .i64 d) (qP h (zw ⟨26,r,m,sub,cc,l,k⟩ d)) (.pointer (some ⟨b,0,none⟩)) J:=by
 have g2:=s2.get
 have l2:=s2.lt
 unfold wY
 have s3:Sat (.of h) (h2.push (.cells [.int .u8 72,.int .u8 239] 5)) (wR (.slice (some ⟨h2.next,0,none⟩) 2 4) [72,239] :: [pt b _]):=yp s2 [72,239] 4 (by decide)
 simp -implicitDefEqProofs only [EE,Int.reduceEq,xw,dI,KK,VI,X1,YS,Zg,ju]
 exact fin s3 rfl
theorem Gh (hJ:∀ vs,J vs h2):wY (.int .i64 20) h2 (.int .i64 d) (qP h (zw ⟨20,r,m,sub,cc,l,k⟩ d)) (.pointer (some ⟨b,0,none⟩)) J:=by
 unfold wY
 simp -implicitDefEqProofs only [EE,nth,Int.reduceEq,dI,KK,VI,X1,YS,Zg,ju]
 exact hJ _
end
section
variable {h:za} {x:z8} {d:Int}
theorem Iq (Y:lp x) (hx:18<=x.op):DC Tryz.prog 63 [x.val,.int .i64 d] h (qP h (zw x d)):=by
 apply jY;intro wf
 apply BN
 unfold Dm
 obtain ⟨op,r,m,sub,cc,l,k⟩:=x
 obtain ⟨Yop,YR,YM,Yalu,Ysiz,Yun,Yext,Ysh,Ycc⟩:=Y
 have s0:=Sat.self wf.2
 simp -implicitDefEqProofs only [EE,Value.cells]
 refine ZY s0 fun b h2 s2 => ?_
 have g2:=s2.get
 simp -implicitDefEqProofs only [EE,↓z7,zq,zi,DR,ze,g2]
 simp only at Yop YR YM Yalu Ysiz Yun Yext Ysh Ycc hx
 have:op=18\/op=19\/op=20\/op=21\/op=22\/op=23\/op=24\/op=25\/op=26:=by omega
 rcases this with rfl | rfl | rfl | rfl | rfl | rfl | rfl | rfl | rfl
 ·exact Gf s2
 ·exact Gg (Ycc (.inr rfl)).1 (Ycc (.inr rfl)).2 s2
 ·refine Gh fun vs => ?_
  exact fin (yp s2 [] 2 (by decide)) rfl
 ·exact Gi s2
 ·exact Gj s2
 ·exact Gk s2
 ·exact Gl s2
 ·exact Gm s2
 ·exact Gn s2
theorem l5 (Y:lp x) (d:Int):DC Tryz.prog 29 [x.val,.int .i64 d] h (qP h (zw x d)):=by
 apply jY;intro wf
 apply rE
 unfold tw
 have Z:=Y
 have go:∀ {h2:za} {b:Nat},Sat (.of h) h2 [pt b (.cells x.row 42)]->18<=x.op->(zH Tryz.prog (.func (.func 63) #[] #[]) [x.val,.int .i64 d] h2 (fun t200 h122=>rv [t200] h122 (qP h (zw x d)))):=fun {h2 b} s2 hx=>by
  refine vp (by kernel_rfl) rfl (Iq Y hx) ?_
  rintro v h3 s3
  have s4:=s2.join s3
  have vn:=xj s3
  simp -implicitDefEqProofs only [EE,vn]
  exact fin s4 rfl
 obtain ⟨op,r,m,sub,cc,l,k⟩:=x
 obtain ⟨Yop,YR,YM,Yalu,Ysiz,Yun,Yext,Ysh,Ycc⟩:=Z
 have s0:=Sat.self wf.2
 simp -implicitDefEqProofs only [EE,Value.cells]
 refine fw s0 wf fun b h2 w2 s2 => ?_
 have g2:=s2.get
 simp -implicitDefEqProofs only [EE,zq,zi,zC,zM,g2]
 refine zJ (by kernel_rfl) rfl (XN (.inl rfl) r m _) ?_
 simp -implicitDefEqProofs only [EE,zq,zi,zC,zM,cO,g2]
 refine zJ (by kernel_rfl) rfl (XN (.inl rfl) m r _) ?_
 simp -implicitDefEqProofs only [EE,zq,zi,zC,cN,g2]
 refine zJ (by kernel_rfl) rfl (XN (.inl rfl) 0 r _) ?_
 simp -implicitDefEqProofs only [EE,↓z7,jF,zq,zi,qf,ze,cM,g2]
 simp only at Yop YR YM Yalu Ysiz Yun Yext Ysh Ycc go
 by_cases h1:op=1
 ·subst h1;exact ME (YR rfl) (YM rfl) w2 s2
 by_cases h2':op=2
 ·subst h2'
  by_cases hk:Go.Ar.uN k=true
  ·exact MF (YR rfl) hk w2 s2
  ·exact I8 (YR rfl) hk w2 s2
 by_cases h3:op=3
 ·subst h3
  rcases Ysiz (.inl rfl) with rfl | rfl | rfl
  ·exact HD (YR rfl) (YM rfl) w2 s2
  ·exact HE (YR rfl) (YM rfl) w2 s2
  ·exact HF (YR rfl) (YM rfl) w2 s2
 by_cases h4:op=4
 ·subst h4
  rcases Ysiz (.inr rfl) with rfl | rfl | rfl
  ·exact HG (YR rfl) (YM rfl) w2 s2
  ·exact HH (YR rfl) (YM rfl) w2 s2
  ·exact HI (YR rfl) (YM rfl) w2 s2
 by_cases h5:op=5
 ·subst h5;exact MG (YR rfl) (YM rfl) w2 s2
 by_cases h6:op=6
 ·subst h6;exact MH (YR rfl) w2 s2
 by_cases h7:op=7
 ·subst h7
  by_cases hs:sub=13
  ·subst hs;exact I9 (YR rfl) (YM rfl) w2 s2
  ·exact MI (YR rfl) (YM rfl) hs w2 s2
 by_cases h8:op=8
 ·subst h8
  by_cases hs:sub=13
  ·subst hs;exact La (YR rfl) w2 s2
  ·have:=Yalu (.inr rfl)
   exact MJ (YR rfl) (by omega) w2 s2
 by_cases h9:op=9
 ·subst h9
  rcases Yun rfl with rfl | rfl
  ·exact HJ (YR rfl) w2 s2
  ·exact HK (YR rfl) w2 s2
 by_cases h10:op=10
 ·subst h10
  rcases Yext rfl with rfl | rfl
  ·exact Fx (YR rfl) (YM rfl) w2 s2
  ·exact Fy (YR rfl) (YM rfl) (by decide) w2 s2
 by_cases h11:op=11
 ·subst h11
  rcases Ysh (.inl rfl) with rfl | rfl
  ·exact Hz (YR rfl) w2 s2
  ·exact HA (YR rfl) w2 s2
 by_cases h12:op=12
 ·subst h12
  rcases Ysh (.inr rfl) with rfl | rfl
  ·exact HB (YR rfl) w2 s2
  ·exact HC (YR rfl) w2 s2
 by_cases h13:op=13
 ·subst h13;exact I3 w2 s2
 by_cases h14:op=14
 ·subst h14;exact I4 (YM rfl) w2 s2
 by_cases h15:op=15
 ·subst h15;exact I5 (YR rfl) (YM rfl) w2 s2
 by_cases h16:op=16
 ·subst h16;exact I6 (YR rfl) w2 s2
 by_cases h17:op=17
 ·subst h17;exact I7 (YR rfl) (Ycc (.inl rfl)).1 (Ycc (.inl rfl)).2 w2 s2
 unfold zv
 simp -implicitDefEqProofs only [EE,N5,Nat.reduceAdd,Qj,Wq,YN,ZL,jR,kh,uH,vY,vq,wP,x8,xY,xF,xl,yD,yw,h1,h2',h3,h4,h5,h6,h7,h8,h9,h10,h11,h12,h13,h14,h15,h16,h17,g2]
 exact go s2 (by omega)
end
open Go.Rm (Zq jP qO uy wh ux uD yC Rd Rd.of Rd.at)
open Go.As (XL jC)
section
variable {lo:y5} {h:za} {L:List HP} {gv sv:Value} {gl zs:List Int}
theorem W3 (zs:List Int):∀ r,r ∈ zs.map yC->r.length=1:=uD (f:=yC) (fun _=>rfl) zs
theorem tV (s:Sat lo h (Zq 2 1 sv (zs.map yC) :: L)) (z:Int) (Ah:zs.length<=1000000) :
  ∃ b c h',(∀ r,zg Tryz.prog .append [67,67] r [sv,.slice (some ⟨h.next,0,none⟩) 1 3] (h.push (.cells [.int .i64 z] 2))=some (.slice (some ⟨b,0,none⟩) (zs.length + 1) c,h'))/\Sat lo h' (Zq 2 1 (.slice (some ⟨b,0,none⟩) (zs.length + 1) c) ((zs ++ [z]).map yC) :: L):=by
 have s1:=s.push (.cells [.int .i64 z] 2)
 obtain ⟨b',c',h',a1,s2⟩:=jP (s1.p 1) (W3 zs) [.int .i64 z] rfl (by decide) 8 (by rw [NX];omega)
 rw [NX] at a1 s2
 refine ⟨b',c',h',fun r => ?_,?_⟩
 ·rw [GN r _ _ 1 [.int .i64 z] _ rfl (by simp only [wZ,y6];rfl) rfl rfl]
  exact a1
 ·rw [Ou]
  exact (s2.p 1).drop
theorem iI {g a:Int} (g0:0<=g) (g1:g<=65536) (a0:0<=a) (a1:a<=100000000):IntKind.wrap .i64 (a + IntKind.wrap .i64 (IntKind.wrap .i64 ((IntKind.wrap .i64 (g + 31)).tdiv 16) * 16))=a + (g + 31) / 16 * 16:=by
 have e1:IntKind.wrap .i64 (g + 31)=g + 31:=Go.Mem.gC (by omega) (by omega)
 have e2:(g + 31).tdiv 16=(g + 31) / 16:=Int.tdiv_eq_ediv_of_nonneg (by omega)
 have e3:IntKind.wrap .i64 ((g + 31) / 16)=(g + 31) / 16:=Go.Mem.gC (by omega) (by omega)
 have e4:IntKind.wrap .i64 ((g + 31) / 16 * 16)=(g + 31) / 16 * 16:=Go.Mem.gC (by omega) (by omega)
 rw [e1,e2,e3,e4,Go.Mem.gC (by omega) (by omega)]
theorem EO (S:zL h gv gl) (hg:∀ g,g ∈ gl->0<=g/\g<=65536) (Ah:gl.length<=1000):DC Tryz.prog 25 [gv] h (fun r h'=>Sat (.of h) h' [Zq 2 1 r ((wB gl 16777216).map yC)]):=by
 apply jY;intro wf
 apply n7
 unfold n6
 have s0:Sat (.of h) h []:=Sat.self wf.2
 have R:Rd (.of h) (zL · gv gl):=Rd.of (y5.Zz h) S fun h' o=>S.old o
 have gn:=S.Zp
 have ln:=jC S 3 h
 simp -implicitDefEqProofs only [EE,↓z7,gn,ln]
 refine uY (fun m vs h' => ∃ (i:Nat) (r:Value),i<=gl.length/\m=gl.length - i/\vs = [.int .i64 (Yk (gl.take i) 16777216),r,.int .i64 (i:Nat)]/\Sat (.of h) h' [Zq 2 1 r ((wB (gl.take i) 16777216).map yC)]) gl.length ⟨0,.slice none 0 0,Oe _,rfl,rfl,uy _ _ s0⟩ ?_
 rintro m vs h' ⟨i,r,hi,rfl,rfl,s⟩
 have rn:=wh s
 unfold dH
 by_cases hc:(i:Int) < (gl.length:Int)
 ·obtain ⟨g,hgi⟩:∃ g,gl[i]? = some g:=⟨_,NC (by omega)⟩
  have gb:=hg g (NQ hgi)
  obtain ⟨b,o,c,t,a1,a2,a3,a4⟩:=XL (R.at s) hgi
  have et:gl.take (i + 1)=gl.take i ++ [g]:=by rw [OA,hgi];rfl
  have eb:=K7 (gl.take i) 16777216 fun x hx=>hg x (List.mem_of_mem_take hx)
  rw [Ok,Nat.min_eq_left hi] at eb
  have hl:(wB (gl.take i) 16777216).length=i:=by rw [JN,Ok,Nat.min_eq_left hi]
  obtain ⟨b2,c2,h2,e1,s2⟩:=tV s (Yk (gl.take i) 16777216) (by omega)
  have w1:IntKind.wrap .i64 (g + 16)=g + 16:=Go.Mem.gC (by omega) (by omega)
  have w2:IntKind.wrap .i64 (g + 16 + 16)=g + 32:=by rw [Go.Mem.gC (by omega) (by omega)];omega
  have w3:g + 32 - 1=g + 31:=by omega
  have w4:=iI gb.1 gb.2 (show 0<=Yk (gl.take i) 16777216 by omega) (by omega)
  have hin:=inc (show i < 4611686018427387904 by omega)
  simp -implicitDefEqProofs only [EE,nth,↓z7,Int.reduceEq,zq,zi,iy,dF,dG,hc,a1,a3,a4,rn,e1,w1,w2,w3,w4,hin]
  refine ⟨gl.length - (i + 1),by omega,i + 1,.slice (some ⟨b2,0,none⟩) ((wB (gl.take i) 16777216).length + 1) c2,by omega,rfl,?_,?_⟩
  ·rw [et,(Y8 g (gl.take i) 16777216).2]
  ·rw [et,(Y8 g (gl.take i) 16777216).1]
   exact s2
 ·have e:i=gl.length:=by omega
  subst e
  rw [OE] at s
  simp -implicitDefEqProofs only [EE,nth,hc,rn]
  exact s
theorem B8 (S:zL h gv gl) (hg:∀ g,g ∈ gl->0<=g/\g<=65536) (Ah:gl.length<=1000):DC Tryz.prog 30 [gv] h (fun r h'=>Sat (.of h) h' [Zq 2 1 r ((wB gl 16777216).map yC)]):=by
 apply jY;intro wf
 apply m9
 unfold m8
 have s0:Sat (.of h) h []:=Sat.self wf.2
 have R:Rd (.of h) (zL · gv gl):=Rd.of (y5.Zz h) S fun h' o=>S.old o
 have gn:=S.Zp
 have ln:=fun h=>jC S 3 h
 simp -implicitDefEqProofs only []
 refine uY (fun m vs h' => ∃ (i:Nat) (r:Value),i<=gl.length/\m=gl.length - i/\vs = [r,.int .i64 (Yk (gl.take i) 16777216),.int .i64 (i:Nat)]/\Sat (.of h) h' [Zq 2 1 r ((wB (gl.take i) 16777216).map yC)]) gl.length ⟨0,_,Oe _,rfl,rfl,qO (rows:=[]) (c:=2) (by decide) (fun r hr=>by cases hr) rfl (s0.push _)⟩ ?_
 rintro m vs h' ⟨i,r,hi,rfl,rfl,s⟩
 have rn:=wh s
 unfold cZ
 by_cases hc:(i:Int) < (gl.length:Int)
 ·obtain ⟨g,hgi⟩:∃ g,gl[i]? = some g:=⟨_,NC (by omega)⟩
  have gb:=hg g (NQ hgi)
  have et:gl.take (i + 1)=gl.take i ++ [g]:=by rw [OA,hgi];rfl
  have eb:=K7 (gl.take i) 16777216 fun x hx=>hg x (List.mem_of_mem_take hx)
  rw [Ok,Nat.min_eq_left hi] at eb
  have hl:(wB (gl.take i) 16777216).length=i:=by rw [JN,Ok,Nat.min_eq_left hi]
  obtain ⟨b2,c2,h2,e1,s2⟩:=tV s (Yk (gl.take i) 16777216) (by omega)
  obtain ⟨b,o,c,t,a1,a2,a3,a4⟩:=XL (R.at s2) hgi
  have w1:IntKind.wrap .i64 (g + 16)=g + 16:=Go.Mem.gC (by omega) (by omega)
  have w3:g + 16 + 15=g + 31:=by omega
  have w4:=iI gb.1 gb.2 (show 0<=Yk (gl.take i) 16777216 by omega) (by omega)
  have hin:=inc (show i < 4611686018427387904 by omega)
  simp -implicitDefEqProofs only [EE,nth,↓z7,Int.reduceEq,zq,zi,iy,cX,cY,gn,ln,hc,a1,a3,a4,rn,e1,w1,w3,w4,hin]
  refine ⟨gl.length - (i + 1),by omega,i + 1,.slice (some ⟨b2,0,none⟩) ((wB (gl.take i) 16777216).length + 1) c2,by omega,rfl,?_,?_⟩
  ·rw [et,(Y8 g (gl.take i) 16777216).2]
  ·rw [et,(Y8 g (gl.take i) 16777216).1]
   exact s2
 ·have e:i=gl.length:=by omega
  subst e
  rw [OE] at s
  simp -implicitDefEqProofs only [EE,nth,gn,ln,hc,rn]
  exact s
end
open Go.Rm (wy QX)
section
variable {lo:y5} {h:za} {L:List HP} {y:Value} {xs ys:List Int}
theorem HT {b n c c2 o m:Nat} (s:Sat lo h (wR (.slice (some ⟨b,0,none⟩) n c) xs :: L)) (ho:o + 4=xs.length) (hm:m=4) (S:jQ h y ys) (hy:ys.length=4) :
  ∃ h',(∀ r,zg Tryz.prog .copy [29,29] r [.slice (some ⟨b,o,none⟩) m c2,y] h=some (.int .i64 4,h'))/\Sat lo h' (wR (.slice (some ⟨b,0,none⟩) n c) (xs.take o ++ ys) :: L)/\(w9 h->w9 h'):=by
 subst hm
 obtain ⟨hn,hf⟩:=Zk S
 rw [hy] at hn hf
 rcases wy s with ⟨e,_,_⟩ | ⟨b',c',cs,e,hc,hl,ht,s'⟩
 ·cases e
 ·simp only [Value.slice.injEq,Nz,Addr.mk.injEq] at e
  obtain ⟨⟨rfl,_⟩,e2,rfl⟩:=e
  rw [NX] at e2 hl ht
  subst e2
  have ht2:cs.take xs.length=xs.map fun z=>Value.int .u8 z:=by
   have:=ht
   rw [Pd,jU] at this
   exact this
  have hl2:xs.length<=cs.length:=by omega
  have ln:(ys.map fun z=>Value.int .u8 z).length=4:=by rw [NX,hy]
  refine ⟨h.set b (some (.cells (zt cs o (ys.map fun z=>Value.int .u8 z)) 5)),fun r => ?_,?_,fun w=>Go.Rtl.wf_set w s'.lt _⟩
  ·show dS Tryz.prog 29 _ y h=_
   unfold dS
   have h1:zT Tryz.prog (underlying 29)=some (.slice 5):=by kernel_rfl
   have h2:(zT Tryz.prog (typeInfo 5)).map (fun i=>i.size)=some 1:=by kernel_rfl
   cases h3:zT Tryz.prog (typeInfo 5) with
   | none=>rw [h3] at h2;cases h2
   | some i=>
     rw [h3] at h2
     have h2:i.size=1:=PE h2
     rw [h1]
     simp only [hn,h3,h2,Nat.min_self,hf]
     unfold WS
     rw [ln]
     have e1:Nat.beq 4 0=false:=rfl
     have e2:(Nat.ble h.ro b && Nat.ble (o + 4) cs.length && (ys.map fun z=>Value.int .u8 z).all xp)=true:=by
      rw [iz,Nat.ble_eq_true_of_le s'.wr,Nat.ble_eq_true_of_le (by omega:o + 4<=cs.length)];rfl
     simp only [e1,N1,s'.get,e2,NR,OG]
     rfl
  ·have hlen:(zt cs o (ys.map fun z=>Value.int .u8 z)).length=cs.length:=Xc _ _ _
   have hl3:(xs.take o ++ ys).length=xs.length:=by rw [Oy,Ok,hy];omega
   have q:=QX (ty:=5) (n:=1) (rows:=(xs.take o ++ ys).map jy) (c:=c) hc (by rw [NX,hl3,hlen];omega) (by
    rw [NX,hl3,Pd,jU]
    refine O2 fun j => ?_
    by_cases hj:j < xs.length
    ·rw [Ob hj,Go.Mem.VV _ _ _ _ (by rw [ln];omega),ln]
     by_cases hq:o<=j/\j < o + 4
     ·rw [NK hq,Ou,Ot (by rw [NX,Ok];omega)]
      rw [NX,Ok,Nat.min_eq_left (by omega)]
     ·rw [NJ hq,Ou,Oi (by rw [NX,Ok];omega),<- Ob (l:=cs) hj,ht2,List.map_take,Ob (by omega)]
    ·rw [NM (by rw [Ok];omega),NM (by rw [NX,hl3];omega)]) (s'.set (.cells (zt cs o (ys.map fun z=>Value.int .u8 z)) 5))
   rw [NX,hl3] at q
   exact q
theorem rf {b off:Nat} {cs vs:List Value} {t:TypeId} {K:za->Prop} (s:Sat lo h (pt b (.cells cs t) :: L)) (wf:w9 h) (hl:off + vs.length<=cs.length) (hc:vs.all xp=true) (k:∀ h',w9 h'->Sat lo h' (pt b (.cells (zt cs off vs) t) :: L)->K h'):opt (fO h b off vs) K:=by
 rw [E9 s.get,NK ⟨hl,s.wr,hc⟩]
 exact k _ (Go.Rtl.wf_set wf s.lt _) (s.set _)
theorem Hi {q:Nat} {o:wi} (s:Sat lo h (pt q o :: L)):∃ lo1,lo.Le lo1/\Rd lo1 (fun h=>h.get q=some o)/\Sat lo1 h L:=by
 obtain ⟨a,ha,d,w,s⟩:=s
 refine ⟨lo.un a,y5.Jb d,fun h1 b1 => ?_,s⟩
 have:Sat lo h1 [pt q o]:=⟨a,ha,d,w,b1⟩
 exact this.get
end
theorem Np (h:za):vO h=(.map (some h.next),h.push (.map [] 0)):=rfl
def UD (ls:List Nat) (n:Nat):List Value:=(ls.map fun q=>Value.map (some q)) ++ List.replicate (n - ls.length) (.map none)
theorem Co (n:Nat):jH [.map none] n=UD [] n:=by
 unfold jH UD
 rw [PK,Pk]
 apply O2
 intro i
 by_cases h:i < n
 ·simp [h,Nat.mod_one]
 ·rw [NM (by simp;omega),NM (by simp;omega)]
theorem Em {ls:List Nat} {n:Nat} (h:ls.length<=n):(UD ls n).length=n:=by unfold UD;simp;omega
theorem Cn {ls:List Nat} {n q:Nat} (h:ls.length < n):(UD ls n).set ls.length (.map (some q))=UD (ls ++ [q]) n:=by
 unfold UD
 rw [List.set_append_right _ _ (by simp),NX,Nat.sub_self,Ou,O5]
 congr 1
 obtain ⟨k,hk⟩:∃ k,n - ls.length=k + 1:=⟨n - ls.length - 1,by omega⟩
 rw [hk,Oy,List.length_singleton,show n - (ls.length + 1)=k by omega,List.replicate_succ]
 rfl
theorem Ap {ls:List Nat} {n k q:Nat} (h:ls[k]? = some q):(UD ls n)[k]? = some (.map (some q)):=by
 unfold UD
 rw [Oi (by rw [NX];exact (Ow.1 h).1),NU,h];rfl
open Go.As (Pg ZF vV uL jg vQ um)
section
variable {lo:y5} {h:za} {L:List HP} {f:Go.As.Fn} {q bl N c n st:Nat} {cs:List Value} {v0 v1:Value} {J:List Value->za->Prop}
theorem Wc {h:za} {y:Value} {ys:List Int} (S:jQ h y ys) (r:TypeId) (h':za):zg Tryz.prog .len [29] r [y] h'=some (.int .i64 ys.length,h'):=by
 have:=(Zk S).1
 rcases S with ⟨rfl,e⟩ | ⟨b,off,cp,rfl,_⟩
 ·have:ys = []:=by simpa using e
  subst this;rfl
 ·rw [NX] at *
  rfl
theorem H4 (hF:Rd lo (ZF · f)) (hY:∀ x,x ∈ f.code->lp x) (hcs:cs[n]? = some (.map (some q))) (hn:n < N) (hst:st<=1000000) (hsz:yO f.code<=1000000) (hfl:f.code.length<=1000000)
  (s:Sat lo h (pt q (W5 []) :: pt bl (.cells cs 65) :: L)) (k:∀ h',Sat lo h' (pt q (W5 (VX f.code st [])) :: pt bl (.cells cs 65) :: L)->J [.int .i64 ((st + yO f.code:Nat):Int)] h') :
  LP (Qr (.int .i64 f.code.length) J f.cv (.slice (some ⟨bl,0,none⟩) N c) [v0,v1,.int .i64 n]) [.int .i64 st,.int .i64 0] h:=by
 refine uY (fun m vs h' => ∃ j:Nat,j<=f.code.length/\m=f.code.length - j/\vs = [.int .i64 ((st + yO (f.code.take j):Nat):Int),.int .i64 (j:Nat)]/\Sat lo h' (pt q (W5 (VX (f.code.take j) st [])) :: pt bl (.cells cs 65) :: L)) f.code.length ⟨0,Oe _,rfl,rfl,s⟩ ?_
 rintro m vs h1 ⟨j,hj,rfl,rfl,s1⟩
 have F:=hF.at s1
 unfold Qr
 by_cases hc:(j:Int) < (f.code.length:Int)
 ·obtain ⟨i,hi⟩:∃ i,f.code[j]? = some i:=⟨_,NC (by omega)⟩
  obtain ⟨bi,oi,ci,ti,ha,hbi,hgi,hle,htk,_⟩:=uL F.code (i:=j) (r:=i.row) (by rw [NU,hi];rfl) rfl
  have et:f.code.take (j + 1)=f.code.take j ++ [i]:=by rw [OA,hi];rfl
  have hsn:=iL i (f.code.take j) st []
  rw [<- et] at hsn
  have hss:=fK (f.code.take j) i
  rw [<- et] at hss
  have hmono:yO (f.code.take (j + 1))<=yO f.code:=by
   have:=Uy (f.code.take (j + 1)) (f.code.drop (j + 1))
   rw [O9] at this;omega
  have hin:=inc (show j < 4611686018427387904 by omega)
  have gL:=(s1.p 1).get
  have n0:0<=(n:Int)/\(n:Int) < (N:Int):=by omega
  simp -implicitDefEqProofs only [EE,nth,Value.cells,↓z7,N5,jF,qf,aT,cS,hc,ha,hgi,hle,htk]
  refine ZY s1 fun b8 h2 s2 => ?_
  simp -implicitDefEqProofs only [EE,Nat.reduceAdd,aS]
  refine ZJ s2 (by simp) rfl fun h3 s3 => ?_
  have g8:=s3.get
  have gM:=(s3.p 1).get
  have gL3:=(s3.p 2).get
  have fin:∀ {h5:za} {L':List HP},Sat lo h5 (pt b8 (.cells i.row 42) :: pt q (W5 (VX (f.code.take (j + 1)) st [])) :: pt bl (.cells cs 65) :: L) ->
    zH Tryz.prog (.func (.func 24) #[] #[]) [i.val] h5 (Qp [.int .i64 ((st + yO (f.code.take j):Nat):Int),.int .i64 (j:Nat)] (Qq [.int .i64 ((st + yO (f.code.take j):Nat):Int),.int .i64 (j:Nat)] fun vs' h' => ∃ m,m < f.code.length - j /\ ∃ j:Nat,j<=f.code.length/\m=f.code.length - j/\vs' = [.int .i64 ((st + yO (f.code.take j):Nat):Int),.int .i64 (j:Nat)]/\Sat lo h' (pt q (W5 (VX (f.code.take j) st [])) :: pt bl (.cells cs 65) :: L))):=fun {h5 L'} s5=>by
   refine vp (by kernel_rfl) rfl (Hg (hY i (NQ hi))) ?_
   rintro v h6 s6
   have s7:=s5.join s6
   have vn:=xj s6
   have lv:=fun h'=>Wc (xx s6 NT) 3 h'
   have sz:(zw i 0).length=vW i:=rfl
   rw [sz] at lv
   have hadd:IntKind.wrap .i64 (((st + yO (f.code.take j):Nat):Int) + (vW i:Int))=((st + yO (f.code.take (j + 1)):Nat):Int):=by
    rw [hss,Go.Mem.gC (by omega) (by omega)];push_cast;omega
   simp -implicitDefEqProofs only [EE,nth,Qp,Qq,vn,lv,hadd,hin]
   refine ⟨f.code.length - (j + 1),by omega,j + 1,by omega,rfl,rfl,?_⟩
   exact s7.drop.drop
  by_cases h20:i.op=20
  ·rw [NK h20] at hsn
   have up:=rj (P:=Tryz.prog) (t:=65) (kt:=3) (et:=3) (kind := .i64) (by kernel_rfl) (by kernel_rfl) gM (s3.p 1).wr i.l (.int .i64 ((st + yO (f.code.take j):Nat):Int))
   have s4:=(s3.p 1).set (W5 (Xl (VX (f.code.take j) st []) i.l (.int .i64 ((st + yO (f.code.take j):Nat):Int))))
   have g84:=(s4.p 1).get
   have hd:decide (i.op=20)=true:=Ol h20
   simp -implicitDefEqProofs only [EE,nth,zt,N5,Nat.reduceAdd,jF,zq,zi,qf,DE,ze,x9,An,cR,g8,hd,n0,OB,Pd,gL3,hcs,up,g84]
   refine fin (L':=L) ?_
   rw [hsn]
   exact s4.f [1,0]
  ·rw [NJ h20] at hsn
   simp -implicitDefEqProofs only [EE,zt,N5,Nat.reduceAdd,jF,zq,zi,qf,ze,g8,h20]
   refine fin (L':=L) ?_
   rw [hsn]
   exact s3
 ·have e:j=f.code.length:=by omega
  subst e
  rw [OE] at s1 ⊢
  simp -implicitDefEqProofs only [EE,nth,hc]
  exact k h1 s1
end
open Go.Rm (Rd.mono)
section
variable {lo:y5} {h:za} {L:List HP} {p:Pg} {b2 b4 bl c:Nat} {gv v0:Value} {zs:List Int} {J:List Value->za->Prop} {R:Value->za->Prop}
abbrev bu (p:Pg) (cv sv gv:Value):wi := .cells [cv,sv,gv,.int .i64 p.main,.int .i64 p.params] 31
def CU (p:Pg) (ls:List Nat) (h:za):Prop := ∀ (k q:Nat) (f:Go.As.Fn),ls[k]? = some q->p.funcs[k]? = some f->h.get q=some (W5 (VX f.code (z9 (p.funcs.take k)) []))
theorem J7:∀ fs gs:List Go.As.Fn,z9 (fs ++ gs)=z9 fs + z9 gs
 | [],gs=>by rw [Pk];show _=0 + _;omega
 | f :: fs,gs=>by
   show yO f.code + z9 (fs ++ gs)=yO f.code + z9 fs + z9 gs
   rw [J7 fs gs];omega
theorem jk (fs:List Go.As.Fn) (i:Nat):z9 (fs.take i)<=z9 fs:=by
 have:=J7 (fs.take i) (fs.drop i)
 rw [O9] at this;omega
theorem lT (s:Sat lo h (Zq 3 1 gv (zs.map yC) :: L)) (z:Int) (Ah:zs.length<=1000000) :
  ∃ b c h',(∀ r,zg Tryz.prog .append [22,22] r [gv,.slice (some ⟨h.next,0,none⟩) 1 3] (h.push (.cells [.int .i64 z] 3))=some (.slice (some ⟨b,0,none⟩) (zs.length + 1) c,h'))/\Sat lo h' (Zq 3 1 (.slice (some ⟨b,0,none⟩) (zs.length + 1) c) ((zs ++ [z]).map yC) :: L):=by
 have s1:=s.push (.cells [.int .i64 z] 3)
 obtain ⟨b',c',h',a1,s2⟩:=jP (s1.p 1) (W3 zs) [.int .i64 z] rfl (by decide) 8 (by rw [NX];omega)
 rw [NX] at a1 s2
 refine ⟨b',c',h',fun r => ?_,?_⟩
 ·rw [oH r _ _ 1 [.int .i64 z] _ rfl (by simp only [wZ,y6];rfl) rfl rfl]
  exact a1
 ·rw [Ou]
  exact (s2.p 1).drop
def uT (fs:List Go.As.Fn):List Int:=(xV fs 0).map fun (n:Nat)=>(n:Int)
theorem Vi (fs:List Go.As.Fn):(uT fs).length=fs.length:=by unfold uT;rw [NX,fM]
theorem bh (fs:List Go.As.Fn) (f:Go.As.Fn):uT (fs ++ [f])=uT fs ++ [((z9 fs:Nat):Int)]:=by
 unfold uT
 rw [bj,Ou,OT];rfl
theorem E8 (hp:Rd lo (vV · p)) (hY:∀ f,f ∈ p.funcs->∀ x,x ∈ f.code->lp x) (hsz:z9 p.funcs<=1000000) (hcf:∀ f,f ∈ p.funcs->f.code.length<=1000000) (hfl:p.funcs.length<=100)
  (s:Sat lo h (pt bl (.cells (UD [] p.funcs.length) 65) :: Zq 3 1 (.slice none 0 0) ([].map yC) :: pt b4 (bu p (.slice none 0 0) (.slice none 0 0) gv) :: L)) (gn:ya gv=false)
  (k:∀ h' lo1 ls sv,lo.Le lo1->ls.length=p.funcs.length->Rd lo1 (CU p ls)->Sat lo1 h' (pt bl (.cells (UD ls p.funcs.length) 65) :: Zq 3 1 sv ((uT p.funcs).map yC) :: pt b4 (bu p (.slice none 0 0) sv gv) :: L)->J [v0] h') :
  LP (Vt (.int .i64 p.funcs.length) J p.fv (.pointer (some ⟨b4,0,none⟩)) (.slice (some ⟨bl,0,none⟩) p.funcs.length c) (.pointer (some ⟨b2,0,none⟩)) R) [v0,.int .i64 0,.int .i64 0] h:=by
 refine uY (fun m vs h' => ∃ (i:Nat) (lo1:y5) (ls:List Nat) (sv:Value),i<=p.funcs.length/\m=p.funcs.length - i/\vs = [v0,.int .i64 ((z9 (p.funcs.take i):Nat):Int),.int .i64 (i:Nat)]/\ls.length=i/\lo.Le lo1/\Rd lo1 (CU p ls)/\Sat lo1 h' (pt bl (.cells (UD ls p.funcs.length) 65) :: Zq 3 1 sv ((uT (p.funcs.take i)).map yC) :: pt b4 (bu p (.slice none 0 0) sv gv) :: L)) p.funcs.length
  ⟨0,lo,[],.slice none 0 0,Oe _,rfl,rfl,rfl,y5.Le.refl _,fun h b k q f h1=>(by cases h1),s⟩ ?_
 rintro m vs h1 ⟨i,lo1,ls,sv,hi,rfl,rfl,hls,hle1,hR,s1⟩
 unfold Vt
 by_cases hc:(i:Int) < (p.funcs.length:Int)
 ·obtain ⟨f,hf⟩:∃ f,p.funcs[i]? = some f:=⟨_,NC (by omega)⟩
  have P:=(hp.mono hle1).at s1
  have fm:=NQ hf
  obtain ⟨bf,ofs,cf,tf,hif,hbf,hgf,hlf,htf,hkf⟩:=jg P.funcs (i:=i) (r:=f.row) (by rw [NU,hf];rfl) rfl
  have hF:Rd lo1 (ZF · f):=fun h b=>(hp.mono hle1 h b).fns f fm
  have cvn:=(P.fns f fm).code.Zp
  have cvc:=(P.fns f fm).code.KW
  have hin:=inc (show i < 4611686018427387904 by omega)
  have et:p.funcs.take (i + 1)=p.funcs.take i ++ [f]:=by rw [OA,hf];rfl
  have hss:=QW f (p.funcs.take i)
  rw [<- et] at hss
  have hmono:=jk p.funcs (i + 1)
  have svn:=wh (s1.p 1)
  simp -implicitDefEqProofs only [EE,nth,Value.cells,↓z7,N5,jF,Yr,eu,cU,hc,hif,hgf,hlf,htf]
  refine ZY s1 fun b8 h2 s2 => ?_
  simp -implicitDefEqProofs only [EE,Nat.reduceAdd,dZ]
  refine ZJ s2 (by simp) (by simp [cvc];rfl) fun h3 s3 => ?_
  have g4:=(s3.p 3).get
  have svc:=ux (s3.p 2)
  obtain ⟨b5,c5,h5,e5,s5⟩:=lT (s3.p 2) ((z9 (p.funcs.take i):Nat):Int) (by rw [Vi,Ok];omega)
  rw [<- bh,<- et] at s5
  simp -implicitDefEqProofs only [EE,nth,zq,wL,GP,Un,KY,g4,svn,e5]
  refine ZJ (s5.p 3) (by simp) rfl fun h6 s6 => ?_
  have gl:=(s6.p 3).get
  have wl:=(s6.p 3).wr
  have ll:=(s6.p 3).lt
  have n0:0<=(i:Int)/\(i:Int) < (p.funcs.length:Int):=by omega
  have g8:=(s6.p 2).get
  have s7:=s6.push (.map [] 0)
  simp -implicitDefEqProofs only [EE,nth,N5,IW,An,n0,OB,Pd,Np]
  refine ZJ (s7.p 4) (by rw [Em (by omega)];simp;omega) rfl fun h8 s8 => ?_
  have es:zt (UD ls p.funcs.length) i [.map (some h6.next)]=UD (ls ++ [h6.next]) p.funcs.length:=by
   rw [<- hls,<- Cn (by omega)];rfl
  rw [es] at s8
  have g8:=(s8.p 4).get
  have hlc:=fun h'=>vQ ((hF.at s8).code) 3 h'
  simp -implicitDefEqProofs only [EE,nth,↓z7,zt,zq,uP,wj,g8,cvn,hlc]
  refine H4 (q:=h6.next) (st:=z9 (p.funcs.take i)) hF (hY f fm) (Ap (by rw [Ot (by omega)];simp [hls])) (by omega) (by have:=jk p.funcs i;omega) (by omega) (hcf f fm) (s8.f [1,0]) fun h9 s9 => ?_
  obtain ⟨lo2,l2,hm,s10⟩:=Hi s9
  have hgt:¬ ((z9 (p.funcs.take i) + yO f.code:Nat):Int) > 8388608:=by omega
  simp -implicitDefEqProofs only [EE,nth,cT,hgt]
  simp -implicitDefEqProofs only [EE,nth,ah,hin]
  refine ⟨p.funcs.length - (i + 1),by omega,i + 1,lo2,ls ++ [h6.next],.slice (some ⟨b5,0,none⟩) ((uT (p.funcs.take i)).length + 1) c5,by omega,rfl,by rw [hss],by simp [hls],hle1.trans l2,fun h b k q f' hk hf' => ?_,?_⟩
  ·by_cases hki:k < ls.length
   ·rw [Oi hki] at hk
    exact hR.mono l2 h b k q f' hk hf'
   ·have hk2:k=ls.length:=by
     have:=(Ow.1 hk).1
     simp at this;omega
    subst hk2
    simp at hk
    subst hk
    rw [hls,hf] at hf'
    cases hf'
    rw [hls]
    exact hm h b
  ·exact (s10.f [3]).drop.f [0,2,1]
 ·have e:i=p.funcs.length:=by omega
  subst e
  rw [OE] at s1
  simp -implicitDefEqProofs only [EE,nth,hc]
  exact k h1 lo1 ls sv hle1 hls hR s1
end
open Go.As (kf)
open Go.Ar (xi Y5 Y6)
structure Nh (p:Pg) (code:List z8) (x:z8):Prop where
 lay:lp x
 Mu:x.op=18\/x.op=19->¬ xi code x.l 0 < 0
 call:x.op=21->0<=x.sub/\x.sub < p.funcs.length
 Ib:x.op=6->0<=x.sub/\x.sub < p.globals.length/\0<=x.k/\x.k<=65536
structure CW (p:Pg):Prop where
 ins:∀ f,f ∈ p.funcs->∀ x,x ∈ f.code->Nh p f.code x
 once:∀ f,f ∈ p.funcs->∀ (j:Nat) y,f.code[j]? = some y->y.op=20->xi f.code y.l 0=(j:Int)
 cf:∀ f,f ∈ p.funcs->f.code.length<=100000
 fl:p.funcs.length<=100
 gl:p.globals.length<=200
 gr:∀ g,g ∈ p.globals->0<=g/\g<=65536
theorem sK {p:Pg} (h:kf p=true):CW p:=by
 have hd:Y5 p=true:=by rw [Y6];exact h
 have hl:=fun f fm=>FU h (f:=f) fm
 unfold Y5 at hd
 simp only [ND,NY] at hd
 obtain ⟨h1,h2,h3⟩:=hd
 unfold Go.As.uq at h1
 simp only [ND,NN,NP] at h1
 have gr:∀ g,g ∈ p.globals->0<=g/\g<=65536:=fun g hg=>by
  have:=h2 g hg
  unfold Go.As.mi at this
  simp only [ND,NN,NP] at this
  omega
 refine ⟨fun f fm x hx => ?_,fun f fm=>(hl f fm).1,fun f fm => ?_,by omega,by omega,gr⟩
 ·have a:=h3 f fm
  unfold Go.Ar.QK at a
  simp only [ND] at a
  have a1:=a.1
  unfold Go.Ar.U7 at a1
  rw [NY] at a1
  obtain ⟨n,hn⟩:=List.getElem?_of_mem hx
  have hn':=(Ow.1 hn).1
  have b:=a1 n (by simpa using hn')
  unfold Go.Ar.Eg at b
  rw [hn] at b
  have b:Go.Ar.wA p f.code n x=true:=b
  unfold Go.Ar.wA Go.Ar.jG at b
  simp only [ND,NN] at b
  obtain ⟨b1,b2,b3,b4⟩:=b
  refine ⟨FV b1,(hl f fm).2 x hx,fun e => ?_,fun e => ?_⟩
  ·rw [Ol e,OX,OL,NP,NP] at b3
   omega
  ·rw [Ol e,OX] at b4
   simp only [OL,NP] at b4
   obtain ⟨c1,c2,c3,c4⟩:=b4
   have hlt:x.sub.toNat < p.globals.length:=by omega
   have:=gr _ (PH hlt)
   rw [Oz,NC hlt,Pc] at c4
   exact ⟨by omega,by omega,by omega,by omega⟩
 ·have a:=h3 f fm
  unfold Go.Ar.QK at a
  simp only [ND,NN,NP] at a
  omega
theorem GQ {h:za} {sv:Value} {zs:List Int} (S:zP h sv 1 (zs.map yC)) {i:Nat} {z:Int} (hz:zs[i]? = some z):∃ b o c t,zI Tryz.prog 67 sv (.int .i64 i)=some (.pointer (some ⟨b,o,none⟩))/\b < h.next/\h.get b=some (.cells c t)/\c[o]? = some (.int .i64 z):=by
 obtain ⟨b,o,c,t,⟨off,cp,e1,e2⟩,hi,hb,hg,_,_,hk⟩:=S.spot (i:=i) (r:=yC z) (by rw [NU,hz];rfl) rfl
 refine ⟨b,o,c,t,?_,hb,hg,by have:=hk 0 (by decide);exact this⟩
 rw [e1,El,NK (by omega),e2,OB]
theorem JE {h:za} {sv:Value} {zs:List Int} (S:zP h sv 1 (zs.map yC)) {i:Nat} {z:Int} (hz:zs[i]? = some z):∃ b o c t,zI Tryz.prog 22 sv (.int .i64 i)=some (.pointer (some ⟨b,o,none⟩))/\b < h.next/\h.get b=some (.cells c t)/\c[o]? = some (.int .i64 z):=by
 obtain ⟨b,o,c,t,⟨off,cp,e1,e2⟩,hi,hb,hg,_,_,hk⟩:=S.spot (i:=i) (r:=yC z) (by rw [NU,hz];rfl) rfl
 refine ⟨b,o,c,t,?_,hb,hg,by have:=hk 0 (by decide);exact this⟩
 rw [e1,pr,NK (by omega),e2,OB]
theorem fN {p:Pg} {i:Int} (h0:0<=i) (h1:i < p.funcs.length):(uT p.funcs)[i.toNat]? = some (((xV p.funcs 0)[i.toNat]?.getD 0:Nat):Int)/\(xV p.funcs 0)[i.toNat]?.getD 0<=z9 p.funcs:=by
 have hl:=i6 p.funcs 0 i.toNat (by omega)
 have:=jk p.funcs i.toNat
 unfold uT
 rw [NU,hl]
 refine ⟨rfl,?_⟩
 rw [Pc];omega
theorem mj {p:Pg} (X:CW p) {i:Int} (h0:0<=i) (h1:i < p.globals.length):(wB p.globals 16777216)[i.toNat]? = some ((wB p.globals 16777216)[i.toNat]?.getD 0)/\16777216<=(wB p.globals 16777216)[i.toNat]?.getD 0/\(wB p.globals 16777216)[i.toNat]?.getD 0<=100000000:=by
 have hl:=ph p.globals 16777216 i.toNat (by omega)
 have:=K7 (p.globals.take i.toNat) 16777216 fun g hg=>X.gr g (List.mem_of_mem_take hg)
 have h2:(p.globals.take i.toNat).length<=200:=by rw [Ok];have:=X.gl;omega
 rw [hl,Pc]
 exact ⟨rfl,by omega,by omega⟩
theorem Xj (xs:List z8) (j:Nat):yO (xs.take j)<=yO xs:=by
 have:=Uy (xs.take j) (xs.drop j)
 rw [O9] at this;omega
theorem Wh {fs:List Go.As.Fn} {f:Go.As.Fn} (h:f ∈ fs):yO f.code<=z9 fs:=by
 obtain ⟨a,b,rfl⟩:=N9 h
 rw [J7]
 show _<=z9 a + (yO f.code + z9 b)
 omega
open Go.Rm (ur)
section
variable {lo:y5} {h:za} {L:List HP} {p:Pg} {b4 bl b8 c n o i:Nat} {gv sv av cv:Value} {ls:List Nat} {f:Go.As.Fn} {x:z8} {J:List Value->za->Prop} {J0:List Value->za->Prop}
structure mP (p:Pg) (bl:Nat) (ls:List Nat) (sv av:Value) (h:za):Prop where
 pg:vV h p
 M1:CU p ls h
 cells:h.get bl=some (.cells (UD ls p.funcs.length) 65)
 sW:zP h sv 1 ((uT p.funcs).map yC)
 J1:zP h av 1 ((wB p.globals 16777216).map yC)
theorem rm {P:Program} {g:FuncId} {args:List Value} {h:za} {R:Value->za->Prop} (d:DC P g args h R):DC P g args h (fun v h1=>R v h1/\w9 h1):=d.L3 fun v h1 r w=>⟨r,w⟩
theorem eZ {q:Nat} {m:List (Int × Value)} {l z:Int} (g:h.get q=some (W5 m)) (hz:Wb m l=some (.int .i64 z)):Zw Tryz.prog 65 (.map (some q)) (.int .i64 l) false h=some (.int .i64 z):=by
 have:=pz (P:=Tryz.prog) (t:=65) (kt:=3) (et:=3) (kind := .i64) (z := .int .i64 0) (by kernel_rfl) (by kernel_rfl) (by kernel_rfl) g l false
 rw [hz] at this
 exact this
theorem HY (K:mP p bl ls sv av h) (X:CW p) (hfi:p.funcs[i]? = some f) (hls:ls.length=p.funcs.length) (hx:x ∈ f.code) (hsz:z9 p.funcs<=1000000) (g4:h.get b4=some (bu p cv sv gv)) (g8:h.get b8=some (.cells x.row 42))
  (near:¬ gk x->J0 [] h) (far:gk x->J [.int .i64 (K8 (wB p.globals 16777216) (xV p.funcs 0) f.code (z9 (p.funcs.take i)) x)] h) :
  Vw (.int .i64 x.op) h (.slice (some ⟨bl,0,none⟩) p.funcs.length c) [.int .i64 i] (.pointer (some ⟨b8,0,none⟩)) (.pointer (some ⟨b4,0,none⟩)) av J0 J:=by
 have fm:=NQ hfi
 have hi:=(Ow.1 hfi).1
 have IX:=X.ins f fm x hx
 have n0:0<=(i:Int)/\(i:Int) < (p.funcs.length:Int):=by omega
 obtain ⟨q,hq⟩:∃ q,ls[i]? = some q:=⟨_,NC (by omega)⟩
 have hcs:=Ap (n:=p.funcs.length) hq
 have gM:=K.M1 i q f hq hfi
 have gL:=K.cells
 have yz:=IX.lay.op
 unfold gk at near far
 unfold K8 at far
 unfold Vw
 by_cases h18:x.op=18
 ·have hd:decide (x.op=18)=true:=Ol h18
  have lk:=eZ gM (iM (X.once f fm) (IX.Mu (.inl h18)) (z9 (p.funcs.take i)) [])
  rw [NK (.inl h18)] at far
  simp -implicitDefEqProofs only [EE,nth,N5,zq,zi,DE,x9,An,Vv,hd,n0,OB,Pd,gL,hcs,g8,lk]
  exact far (.inl h18)
 have hd18:decide (x.op=18)=false:=OC h18
 by_cases h19:x.op=19
 ·have hd:decide (x.op=19)=true:=Ol h19
  have lk:=eZ gM (iM (X.once f fm) (IX.Mu (.inr h19)) (z9 (p.funcs.take i)) [])
  rw [NK (.inr h19)] at far
  simp -implicitDefEqProofs only [EE,nth,N5,zq,zi,DE,x9,An,Vv,hd18,hd,n0,OB,Pd,gL,hcs,g8,lk]
  exact far (.inr (.inl h19))
 have hd19:decide (x.op=19)=false:=OC h19
 rw [NJ (by omega)] at far
 by_cases h21:x.op=21
 ·have hd:decide (x.op=21)=true:=Ol h21
  have cl:=IX.call h21
  have sa:=(fN cl.1 cl.2).1
  obtain ⟨b,o,c3,t,a1,a2,a3,a4⟩:=JE K.sW sa
  rw [O6 cl.1] at a1
  rw [NK h21] at far
  simp -implicitDefEqProofs only [EE,nth,zq,wL,zi,KY,zk,aj,Xn,hd18,hd19,hd,g4,g8,a1,a3,a4]
  exact far (.inr (.inr (.inl h21)))
 have hd21:decide (x.op=21)=false:=OC h21
 rw [NJ h21] at far
 by_cases h6:x.op=6
 ·have hd:decide (x.op=6)=true:=Ol h6
  have lg:=IX.Ib h6
  have sa:=mj X lg.1 lg.2.1
  obtain ⟨b,o,c3,t,a1,a2,a3,a4⟩:=GQ K.J1 sa.1
  rw [O6 lg.1] at a1
  rw [NK h6] at far
  have w:=Go.Mem.gC (n:=(wB p.globals 16777216)[x.sub.toNat]?.getD 0 + x.k) (by omega) (by omega)
  simp -implicitDefEqProofs only [EE,nth,zq,xA,zi,zk,zu,ai,Vu,Xn,hd18,hd19,hd21,hd,g8,a1,a3,a4,w]
  exact far (.inr (.inr (.inr h6)))
 have hd6:decide (x.op=6)=false:=OC h6
 simp -implicitDefEqProofs only [EE,nth,Vu,Xn,hd18,hd19,hd21,hd6]
 exact near (by omega)
theorem FP (X:CW p) (hfi:p.funcs[i]? = some f) (hx:x ∈ f.code) (hsz:z9 p.funcs<=1000000) (hf:gk x):0<=K8 (wB p.globals 16777216) (xV p.funcs 0) f.code (z9 (p.funcs.take i)) x/\K8 (wB p.globals 16777216) (xV p.funcs 0) f.code (z9 (p.funcs.take i)) x<=200000000:=by
 have fm:=NQ hfi
 have IX:=X.ins f fm x hx
 unfold gk at hf
 unfold K8
 by_cases h1:x.op=18\/x.op=19
 ·rw [NK h1]
  have:=jk p.funcs i
  have:=Xj f.code (xi f.code x.l 0).toNat
  have:=Wh fm
  omega
 ·rw [NJ h1]
  by_cases h21:x.op=21
  ·rw [NK h21]
   have cl:=IX.call h21
   have:=(fN cl.1 cl.2).2
   omega
  ·have h6:x.op=6:=by omega
   rw [NJ h21,NK h6]
   have lg:=IX.Ib h6
   have sa:=mj X lg.1 lg.2.1
   omega
theorem LG (hK:Rd lo (mP p bl ls sv av)) (X:CW p) (hfi:p.funcs[i]? = some f) (hls:ls.length=p.funcs.length) (hx:x ∈ f.code) (hsz:z9 p.funcs<=1000000) {bs:List Int} (hbs:bs.length=z9 (p.funcs.take i) + n) (hn:n<=1000000) (wf:w9 h)
  (s:Sat lo h (pt b8 (.cells x.row 42) :: pt b4 (bu p cv sv gv) :: wR cv bs :: L)) (cvc:ya gv=false)
  (k:∀ h' cv',w9 h'->Sat lo h' (pt b4 (bu p cv' sv gv) :: wR cv' (bs ++ zw x (ma (wB p.globals 16777216) (xV p.funcs 0) f.code (z9 (p.funcs.take i)) (z9 (p.funcs.take i) + n) x)) :: L)->J0 [] h') :
  zH Tryz.prog (.func (.func 24) #[] #[]) [x.val] h (Vx (.pointer (some ⟨b4,0,none⟩)) (.pointer (some ⟨b8,0,none⟩)) (.slice (some ⟨bl,0,none⟩) p.funcs.length c) [.int .i64 i] av J0):=by
 have fm:=NQ hfi
 have IX:=X.ins f fm x hx
 refine vp (by kernel_rfl) rfl (rm (Hg IX.lay)) ?_
 rintro v h1 ⟨s1,w1⟩
 have s2:=s.join s1
 have sz:(zw x 0).length=vW x:=rfl
 have szl:=size_le x
 have tk:=jk p.funcs i
 have g4:=(s2.p 2).get
 obtain ⟨a,m,c1,h2,a1,s3,w3,_⟩:=KQ ((s2.p 3)) (xx (s2.p 3) (OD _ NT)) (by omega)
 have vn:=xj s1
 have cn:=xj (s2.p 3)
 simp -implicitDefEqProofs only [EE,zq,ig,IV,Us,Vx,g4,vn,cn,a1]
 refine rf (s3.p 3) (w3 w1) (by simp) (by rfl) fun h3 w4 s4 => ?_
 have g43:=s4.get
 have g83:=(s4.p 3).get
 have ln:=fun h'=>Wc (xx (s4.p 1) NT) 3 h'
 rw [Oy,sz,hbs] at ln
 simp -implicitDefEqProofs only [EE,↓z7,zt,zq,ig,zi,Us,ze,g43,g83,ln]
 refine HY (cv := .slice a m c1) (f:=f) (hK.at s4) X hfi hls hx hsz g43 g83 (fun nf => ?_) (fun hf => ?_)
 ·refine k h3 (.slice a m c1) w4 ?_
  rw [r9 nf]
  exact (s4.f [0,1,2,3]).f [2,3] |>.drop.drop
 ·obtain ⟨f1,f2⟩:=B7 hf (ma (wB p.globals 16777216) (xV p.funcs 0) f.code (z9 (p.funcs.take i)) (z9 (p.funcs.take i) + n) x)
  have gb:=FP X hfi hx hsz hf
  rw [f2] at k
  have hlen:(bs ++ zw x 0).length=z9 (p.funcs.take i) + n + vW x:=by rw [Oy,sz,hbs]
  have efar:ma (wB p.globals 16777216) (xV p.funcs 0) f.code (z9 (p.funcs.take i)) (z9 (p.funcs.take i) + n) x=K8 (wB p.globals 16777216) (xV p.funcs 0) f.code (z9 (p.funcs.take i)) x - ((z9 (p.funcs.take i) + n + vW x:Nat):Int):=by
   unfold ma
   rw [NK (by unfold gk at hf;omega)]
  revert gb efar
  generalize K8 (wB p.globals 16777216) (xV p.funcs 0) f.code (z9 (p.funcs.take i)) x=gg
  intro gb efar
  rw [efar] at k
  generalize hN:z9 (p.funcs.take i) + n + vW x=N at *
  rcases wy (s4.p 1) with ⟨e,e2,_⟩ | ⟨b,c',cs,e,hc,hl,ht,_⟩
  ·have:(bs ++ zw x 0).length=0:=by
    have:=congrArg List.length e2
    simpa using this
   omega
  ·have e':=e
   simp only [Value.slice.injEq] at e
   obtain ⟨rfl,e3,rfl⟩:=e
   rw [NX,hlen] at e3
   subst e3
   have wsub:IntKind.wrap .i64 ((m:Int) - 4)=((m - 4:Nat):Int):=by rw [Go.Mem.gC (by omega) (by omega)];omega
   have wg:=Go.Mem.gC (n:=gg - (m:Int)) (by omega) (by omega)
   have c0:(0:Int)<=((m - 4:Nat):Int)/\((m - 4:Nat):Int)<=(m:Int):=by omega
   unfold ak
   simp -implicitDefEqProofs only [EE,NR,nth,zt,N5,zq,ig,Us,Mk,g43,wsub,c0,OB,wg]
   refine Jd s4 w4 (n:=4) rfl (by decide) fun r h5 w5 rn s5 => ?_
   obtain ⟨h6,a6,s6,w6⟩:=HT (o:=m - 4) (m:=m - (m - 4)) (c2:=(bif wide Tryz.prog h3 b 1 then QG c1 (m - 4) else 0)) (s5.p 2) (by rw [hlen];omega) (by omega) (xx s5 NT) (wm 4 _)
   have e7:(bs ++ zw x 0).take (m - 4) ++ uG 4 (gg - (m:Int))=bs ++ ((zw x 0).take (vW x - 4) ++ uG 4 (gg - (m:Int))):=by
    rw [<- O5]
    congr 1
    rw [List.take_append,PC (by omega)]
    congr 2
    omega
   rw [e7] at s6
   simp only [Pd] at *
   simp -implicitDefEqProofs only [EE,rn,a6]
   exact k h6 (.slice (some ⟨b,0,none⟩) m c1) (w6 w5) ((s6.f [1,3,4]).drop.drop.drop.f [1,0])
end
end Go.Eb
