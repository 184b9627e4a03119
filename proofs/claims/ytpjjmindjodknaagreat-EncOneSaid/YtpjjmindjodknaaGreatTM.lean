import Derived.Test.YtpjjmindjodknaaGreatTL
set_option linter.unusedVariables false
set_option linter.unusedSimpArgs false
set_option maxRecDepth 100000
namespace Go.Eb
open Go.Ai Go.Proofs
open Go.Rtl (zK zE Old inc)
open Go.As (zC)
open Go.En
section
variable {lo:yT}{h:za}{L:List HP}{a b:Int}{K:aaa->za->Prop}
theorem KA(a0:0<=a/\a<16)(b0:0<=b/\b<16)(s:Sat lo h L){z:Int}(k:∀r h',zS r=false->Sat lo h' (vu r (uB a b z)::L)->K r h') :
  zF Tryz.prog (.func (.func 58) #[] #[]) [.int .i64 a,.int .i64 b,.int .i64 z] h K:=by
 refine Kd (DH a0.1 a0.2 b0.1 b0.2 z) ?_;rintro r h' s2;exact k r h' (y9 s2) (s.join s2)
theorem AK(a0:0<=a/\a<16)(b0:0<=b/\b<16)(s:Sat lo h L)(wf:vQ h){z:Int}{hv:za}(vn:hv.next=h.next)(vg:∀b o,hv.get b=some o->h.get b=some o)(k:∀r h',vQ h'->zS r=false->Sat lo h' (vu r (uB a b z)::L)->K r h') :
  kC Tryz.prog 58 [.int .i64 a,.int .i64 b,.int .i64 z] hv h K:=by
 refine Wj (by kernel_rfl) rfl wf s vn vg (DH a0.1 a0.2 b0.1 b0.2 z) ?_;rintro r h2 s2 gr w2;exact k r _ w2 (y9 s2) (gr _ s2)
theorem JO(a m k:Int):(uB a m k).length<=6:=by
 have:=IJ a m;unfold uB;rw[aao,xb];omega
end
section
variable {h h2:za}{b:Nat}{r m sub cc l k d:Int}{J:List aaa->za->Prop}
theorem zgl(R:zL r)(M:zL m)(w2:vQ h2)(s2:Sat (.of h) h2 [pt b (.cells (zC.row ⟨1,r,m,sub,cc,l,k⟩) 42)]):zH (.int .i64 1) (.pointer (some ⟨b,0,none⟩)) h2 (.int .u8 (zj 72 m r)) (jK h (ze ⟨1,r,m,sub,cc,l,k⟩ d)) (.int .u8 (zj 72 0 r)) (.int .u8 (zj 72 r m)) (.int .i64 d) J:=by
 have g2:=s2.get;have l2:=s2.lt;unfold zH;have s3:Sat (.of h) (h2.push (.cells [.int .u8 (zj 72 m r),.int .u8 (137),.int .u8 (zW m r)] 5)) (vu (.slice (some ⟨h2.next,0,none⟩) 3 5) [zj 72 m r,137,zW m r]::[pt b _]):=yE s2 [zj 72 m r,137,zW m r] 5 (by decide);simp only[EE,zu,zg,zJ,z7,r9,g2];refine X2 (Wr (a:=m) (b:=r) M.1 M.2 R.1 R.2 _) ?_;simp only[EE,y8];exact fin s3 rfl
theorem zdz(R:zL r)(M:zL m)(w2:vQ h2)(s2:Sat (.of h) h2 [pt b (.cells (zC.row ⟨3,r,m,8,cc,l,k⟩) 42)]):zH (.int .i64 3) (.pointer (some ⟨b,0,none⟩)) h2 (.int .u8 (zj 72 m r)) (jK h (ze ⟨3,r,m,8,cc,l,k⟩ d)) (.int .u8 (zj 72 0 r)) (.int .u8 (zj 72 r m)) (.int .i64 d) J:=by
 have g2:=s2.get;have l2:=s2.lt;unfold zH;have s3:Sat (.of h) (h2.push (.cells [.int .u8 (zj 72 r m),.int .u8 (139)] 5)) (vu (.slice (some ⟨h2.next,0,none⟩) 2 4) [zj 72 r m,139]::[pt b _]):=yE s2 [zj 72 r m,139] 4 (by decide);simp only[EE,↓zq,Int.reduceEq,zu,yU,zg,xe,zJ,z7,zn,zw,Cy,cD,xg,yY,g2,l2];refine KA R M s3 λv h' rn s4=>?_;refine XT s4 (by have:=JO r m k;simp;omega) λv3 h6 rn3 s6=>?_;simp only[EE,rn3];exact fin s6 rfl
theorem zdy(R:zL r)(M:zL m)(w2:vQ h2)(s2:Sat (.of h) h2 [pt b (.cells (zC.row ⟨3,r,m,4,cc,l,k⟩) 42)]):zH (.int .i64 3) (.pointer (some ⟨b,0,none⟩)) h2 (.int .u8 (zj 72 m r)) (jK h (ze ⟨3,r,m,4,cc,l,k⟩ d)) (.int .u8 (zj 72 0 r)) (.int .u8 (zj 72 r m)) (.int .i64 d) J:=by
 have g2:=s2.get;have l2:=s2.lt;unfold zH;have s3:Sat (.of h) (h2.push (.cells [.int .u8 (zj 72 r m),.int .u8 (99)] 5)) (vu (.slice (some ⟨h2.next,0,none⟩) 2 4) [zj 72 r m,99]::[pt b _]):=yE s2 [zj 72 r m,99] 4 (by decide);simp only[EE,↓zq,Int.reduceEq,zu,yU,zg,xe,zJ,z7,zn,zw,Cx,lM,cD,xg,yY,g2,l2];refine KA R M s3 λv h' rn s4=>?_;refine XT s4 (by have:=JO r m k;simp;omega) λv3 h6 rn3 s6=>?_;simp only[EE,rn3];exact fin s6 rfl
theorem zdx(R:zL r)(M:zL m)(w2:vQ h2)(s2:Sat (.of h) h2 [pt b (.cells (zC.row ⟨3,r,m,1,cc,l,k⟩) 42)]):zH (.int .i64 3) (.pointer (some ⟨b,0,none⟩)) h2 (.int .u8 (zj 72 m r)) (jK h (ze ⟨3,r,m,1,cc,l,k⟩ d)) (.int .u8 (zj 72 0 r)) (.int .u8 (zj 72 r m)) (.int .i64 d) J:=by
 have g2:=s2.get;have l2:=s2.lt;unfold zH;have s3:Sat (.of h) (h2.push (.cells [.int .u8 (zj 72 r m),.int .u8 (15),.int .u8 (190)] 5)) (vu (.slice (some ⟨h2.next,0,none⟩) 3 5) [zj 72 r m,15,190]::[pt b _]):=yE s2 [zj 72 r m,15,190] 5 (by decide);simp only[EE,↓zq,Int.reduceEq,zu,yU,zg,y8,zJ,z7,zn,zw,lM,cD,Cz,xg,yY,g2,l2];refine KA R M s3 λv h' rn s4=>?_;refine XT s4 (by have:=JO r m k;simp;omega) λv3 h6 rn3 s6=>?_;simp only[EE,rn3];exact fin s6 rfl
theorem zdC(R:zL r)(M:zL m)(w2:vQ h2)(s2:Sat (.of h) h2 [pt b (.cells (zC.row ⟨4,r,m,8,cc,l,k⟩) 42)]):zH (.int .i64 4) (.pointer (some ⟨b,0,none⟩)) h2 (.int .u8 (zj 72 m r)) (jK h (ze ⟨4,r,m,8,cc,l,k⟩ d)) (.int .u8 (zj 72 0 r)) (.int .u8 (zj 72 r m)) (.int .i64 d) J:=by
 have g2:=s2.get;have l2:=s2.lt;unfold zH;have s3:Sat (.of h) (h2.push (.cells [.int .u8 (zj 72 r m),.int .u8 (137)] 5)) (vu (.slice (some ⟨h2.next,0,none⟩) 2 4) [zj 72 r m,137]::[pt b _]):=yE s2 [zj 72 r m,137] 4 (by decide);simp only[EE,↓zq,Int.reduceEq,zu,yU,zg,xe,zJ,z7,zn,zw,rB,KX,wi,xg,yY,g2,l2];refine KA R M s3 λv h' rn s4=>?_;refine XT s4 (by have:=JO r m k;simp;omega) λv3 h6 rn3 s6=>?_;simp only[EE,rn3];exact fin s6 rfl
theorem zgn(R:zL r)(M:zL m)(w2:vQ h2)(s2:Sat (.of h) h2 [pt b (.cells (zC.row ⟨5,r,m,sub,cc,l,k⟩) 42)]):zH (.int .i64 5) (.pointer (some ⟨b,0,none⟩)) h2 (.int .u8 (zj 72 m r)) (jK h (ze ⟨5,r,m,sub,cc,l,k⟩ d)) (.int .u8 (zj 72 0 r)) (.int .u8 (zj 72 r m)) (.int .i64 d) J:=by
 have g2:=s2.get;have l2:=s2.lt;unfold zH;have s3:Sat (.of h) (h2.push (.cells [.int .u8 (zj 72 r m),.int .u8 (141)] 5)) (vu (.slice (some ⟨h2.next,0,none⟩) 2 4) [zj 72 r m,141]::[pt b _]):=yE s2 [zj 72 r m,141] 4 (by decide);simp only[EE,Int.reduceEq,zu,yU,zg,xe,zJ,z7,zw,r8,wL,wi,xg,yY,g2,l2];refine KA R M s3 λv h' rn s4=>?_;refine XT s4 (by have:=JO r m k;simp;omega) λv3 h6 rn3 s6=>?_;simp only[EE,rn3];exact fin s6 rfl
theorem zdB(R:zL r)(M:zL m)(w2:vQ h2)(s2:Sat (.of h) h2 [pt b (.cells (zC.row ⟨4,r,m,4,cc,l,k⟩) 42)]):zH (.int .i64 4) (.pointer (some ⟨b,0,none⟩)) h2 (.int .u8 (zj 72 m r)) (jK h (ze ⟨4,r,m,4,cc,l,k⟩ d)) (.int .u8 (zj 72 0 r)) (.int .u8 (zj 72 r m)) (.int .i64 d) J:=by
 have g2:=s2.get;have l2:=s2.lt;unfold zH;have s3:Sat (.of h) (h2.push (.cells [.int .u8 (zj 64 r m),.int .u8 (137)] 5)) (vu (.slice (some ⟨h2.next,0,none⟩) 2 4) [zj 64 r m,137]::[pt b _]):=yE s2 [zj 64 r m,137] 4 (by decide);have gc:(cut (h2.push (.cells [.int .u8 (zj 64 r m),.int .u8 137] 5)) h2.next (h2.next+1)).get b=some (.cells (zC.row ⟨4,r,m,4,cc,l,k⟩) 42):=kf (by rw[yq l2];exact g2) l2;simp only[EE,↓zq,Int.reduceEq,zu,zg,zJ,z7,zn,rA,eU,KX,wi,xg,yY,g2];refine eL (VO (.inr rfl) r m _) ?_;simp only[EE,zu,yU,zg,xe,zJ,z7,zw,CA,gc];refine AK R M s3 (ZD w2 _) rfl (λ_ _=>VN) λv h' w rn s4=>?_;refine VL (s4.f [1,0]) (λq hq=>?_) (yw s4 aak) (by have:=JO r m k;simp;omega) rn λa n c h5 s5=>?_
 ·simp only[Go.Rtl.pS,aar]at hq;subst hq;exact⟨aaj _,aaJ _⟩
 ·simp only[EE];exact fin s5 rfl
theorem zdA(R:zL r)(M:zL m)(w2:vQ h2)(s2:Sat (.of h) h2 [pt b (.cells (zC.row ⟨4,r,m,1,cc,l,k⟩) 42)]):zH (.int .i64 4) (.pointer (some ⟨b,0,none⟩)) h2 (.int .u8 (zj 72 m r)) (jK h (ze ⟨4,r,m,1,cc,l,k⟩ d)) (.int .u8 (zj 72 0 r)) (.int .u8 (zj 72 r m)) (.int .i64 d) J:=by
 have g2:=s2.get;have l2:=s2.lt;unfold zH;have s3:Sat (.of h) (h2.push (.cells [.int .u8 (zj 64 r m),.int .u8 (136)] 5)) (vu (.slice (some ⟨h2.next,0,none⟩) 2 4) [zj 64 r m,136]::[pt b _]):=yE s2 [zj 64 r m,136] 4 (by decide);have gc:(cut (h2.push (.cells [.int .u8 (zj 64 r m),.int .u8 136] 5)) h2.next (h2.next+1)).get b=some (.cells (zC.row ⟨4,r,m,1,cc,l,k⟩) 42):=kf (by rw[yq l2];exact g2) l2;simp only[EE,↓zq,Int.reduceEq,zu,zg,zJ,z7,zn,eU,KX,rD,wi,xg,yY,g2];refine eL (VO (.inr rfl) r m _) ?_;simp only[EE,zu,yU,zg,xe,zJ,z7,zw,rC,gc];refine AK R M s3 (ZD w2 _) rfl (λ_ _=>VN) λv h' w rn s4=>?_;refine VL (s4.f [1,0]) (λq hq=>?_) (yw s4 aak) (by have:=JO r m k;simp;omega) rn λa n c h5 s5=>?_
 ·simp only[Go.Rtl.pS,aar]at hq;subst hq;exact⟨aaj _,aaJ _⟩
 ·simp only[EE];exact fin s5 rfl
theorem zgm(R:zL r)(hk:Go.Ar.zQ k=true)(w2:vQ h2)(s2:Sat (.of h) h2 [pt b (.cells (zC.row ⟨2,r,m,sub,cc,l,k⟩) 42)]):zH (.int .i64 2) (.pointer (some ⟨b,0,none⟩)) h2 (.int .u8 (zj 72 m r)) (jK h (ze ⟨2,r,m,sub,cc,l,k⟩ d)) (.int .u8 (zj 72 0 r)) (.int .u8 (zj 72 r m)) (.int .i64 d) J:=by
 have g2:=s2.get;have l2:=s2.lt;unfold zH;have s3:Sat (.of h) (h2.push (.cells [.int .u8 (zj 72 0 r),.int .u8 (199),.int .u8 (zW 0 r)] 5)) (vu (.slice (some ⟨h2.next,0,none⟩) 3 5) [zj 72 0 r,199,zW 0 r]::[pt b _]):=yE s2 [zj 72 0 r,199,zW 0 r] 5 (by decide);have gc:(cut (h2.push (.cells [.int .u8 (zj 72 0 r),.int .u8 199,.int .u8 (zW 0 r)] 5)) h2.next (h2.next+1)).get b=some (.cells (zC.row ⟨2,r,m,sub,cc,l,k⟩) 42):=kf (by rw[yq l2];exact g2) l2;simp only[EE,Int.reduceEq,zu,yU,zw,yY,g2];refine X2 (Go.Ar.YQ k _) ?_;rw[hk];simp only[EE,zu,zg,zJ,lL,g2];refine eL (Wr (a:=0) (b:=r) (show(0:Int)<=0/\(0:Int)<16 by decide).1 (show(0:Int)<=0/\(0:Int)<16 by decide).2 R.1 R.2 _) ?_;simp only[EE,zu,yU,y8,zw,Cv,gc];refine bX s3 (ZD w2 _) (n:=4) rfl (by decide) rfl (λ_ _=>VN) λv h' w rn s4=>?_;refine VL (s4.f [1,0]) (λq hq=>?_) (yw s4 aak) (by simp[xb]) rn λa n c h5 s5=>?_
 ·simp only[Go.Rtl.pS,aar]at hq;subst hq;exact⟨aaj _,aaJ _⟩
 ·simp only[EE];refine fin s5 ?_;have e:ze ⟨2,r,m,sub,cc,l,k⟩ d=if Go.Ar.zQ k=true then [zj 72 0 r,199,zW 0 r]++yX 4 k else [zj 72 0 r,184+r%8]++yX 8 k:=rfl;rw[e,aai hk]
theorem zfb(R:zL r)(hk:¬Go.Ar.zQ k=true)(w2:vQ h2)(s2:Sat (.of h) h2 [pt b (.cells (zC.row ⟨2,r,m,sub,cc,l,k⟩) 42)]):zH (.int .i64 2) (.pointer (some ⟨b,0,none⟩)) h2 (.int .u8 (zj 72 m r)) (jK h (ze ⟨2,r,m,sub,cc,l,k⟩ d)) (.int .u8 (zj 72 0 r)) (.int .u8 (zj 72 r m)) (.int .i64 d) J:=by
 have g2:=s2.get;have l2:=s2.lt;unfold zH;have hk0:Go.Ar.zQ k=false:=by simpa using hk
 have q1:=J7 R.1 R.2
 have q2:IntKind.wrap .u8 (IntKind.wrap .i64 (184+r%8))=184+r%8:=by
  have:∀n:Int,IntKind.wrap .u8 n=n%256:=KR;rw[this,Go.Mem.OV (by omega) (by omega)];omega
 have s3:Sat (.of h) (h2.push (.cells [.int .u8 (zj 72 0 r),.int .u8 (184+r%8)] 5)) (vu (.slice (some ⟨h2.next,0,none⟩) 2 4) [zj 72 0 r,184+r%8]::[pt b _]):=yE s2 [zj 72 0 r,184+r%8] 4 (by decide);have gc:(cut (h2.push (.cells [.int .u8 (zj 72 0 r),.int .u8 (184+r%8)] 5)) h2.next (h2.next+1)).get b=some (.cells (zC.row ⟨2,r,m,sub,cc,l,k⟩) 42):=kf (by rw[yq l2];exact g2) l2;simp only[EE,Int.reduceEq,zu,yU,zw,yY,g2];refine X2 (Go.Ar.YQ k _) ?_;rw[hk0];simp only[EE,zu,yU,zg,xe,Q3,zJ,zw,Cw,lL,g2,q1,q2,gc];refine bX s3 (ZD w2 _) (n:=8) rfl (by decide) rfl (λ_ _=>VN) λv h' w rn s4=>?_;refine VL (s4.f [1,0]) (λq hq=>?_) (yw s4 aak) (by simp[xb]) rn λa n c h5 s5=>?_
 ·simp only[Go.Rtl.pS,aar]at hq;subst hq;exact⟨aaj _,aaJ _⟩
 ·simp only[EE];refine fin s5 ?_;have e:ze ⟨2,r,m,sub,cc,l,k⟩ d=if Go.Ar.zQ k=true then [zj 72 0 r,199,zW 0 r]++yX 4 k else [zj 72 0 r,184+r%8]++yX 8 k:=rfl;rw[e,aaf hk]
theorem zgo(R:zL r)(w2:vQ h2)(s2:Sat (.of h) h2 [pt b (.cells (zC.row ⟨6,r,m,sub,cc,l,k⟩) 42)]):zH (.int .i64 6) (.pointer (some ⟨b,0,none⟩)) h2 (.int .u8 (zj 72 m r)) (jK h (ze ⟨6,r,m,sub,cc,l,k⟩ d)) (.int .u8 (zj 72 0 r)) (.int .u8 (zj 72 r m)) (.int .i64 d) J:=by
 have g2:=s2.get;have l2:=s2.lt;unfold zH;have q1:=J7 R.1 R.2;have q2:IntKind.wrap .u8 (IntKind.wrap .i64 (BitVec.ofInt (IntKind.bits .i64) 5 ||| BitVec.ofInt (IntKind.bits .i64) (IntKind.wrap .i64 (r%8*2^(min 3 (IntKind.bits .i64))))).toNat)=5+r%8*8:=zd7 (KI r).1 (KI r).2;have s3:Sat (.of h) (h2.push (.cells [.int .u8 (zj 72 r 0),.int .u8 (141),.int .u8 (5+r%8*8)] 5)) (vu (.slice (some ⟨h2.next,0,none⟩) 3 5) [zj 72 r 0,141,5+r%8*8]::[pt b _]):=yE s2 [zj 72 r 0,141,5+r%8*8] 5 (by decide);have gc:(cut (h2.push (.cells [.int .u8 (zj 72 r 0),.int .u8 141,.int .u8 (5+r%8*8)] 5)) h2.next (h2.next+1)).get b=some (.cells (zC.row ⟨6,r,m,sub,cc,l,k⟩) 42):=kf (by rw[yq l2];exact g2) l2;simp only[EE,Int.reduceEq,zu,zg,zJ,r7,vk,wL,wi,xg,yY,g2];refine eL (VO (.inl rfl) r 0 _) ?_;simp only[EE,Int.reduceLE,Int.reduceToNat,zu,zg,y8,Q3,zJ,rE,g2,q1,q2];refine bX s3 (ZD w2 _) (n:=4) rfl (by decide) rfl (λ_ _=>VN) λv h' w rn s4=>?_;refine VL (s4.f [1,0]) (λq hq=>?_) (yw s4 aak) (by simp[xb]) rn λa n c h5 s5=>?_
 ·simp only[Go.Rtl.pS,aar]at hq;subst hq;exact⟨aaj _,aaJ _⟩
 ·simp only[EE];exact fin s5 rfl
theorem zfc(R:zL r)(M:zL m)(w2:vQ h2)(s2:Sat (.of h) h2 [pt b (.cells (zC.row ⟨7,r,m,13,cc,l,k⟩) 42)]):zH (.int .i64 7) (.pointer (some ⟨b,0,none⟩)) h2 (.int .u8 (zj 72 m r)) (jK h (ze ⟨7,r,m,13,cc,l,k⟩ d)) (.int .u8 (zj 72 0 r)) (.int .u8 (zj 72 r m)) (.int .i64 d) J:=by
 have g2:=s2.get;have l2:=s2.lt;unfold zH;have s3:Sat (.of h) (h2.push (.cells [.int .u8 (zj 72 r m),.int .u8 (15),.int .u8 (175),.int .u8 (zW r m)] 5)) (vu (.slice (some ⟨h2.next,0,none⟩) 4 6) [zj 72 r m,15,175,zW r m]::[pt b _]):=yE s2 [zj 72 r m,15,175,zW r m] 6 (by decide);simp only[EE,Int.reduceEq,zu,zg,zJ,z7,zn,rG,fo,vv,vk,wL,wi,xg,yY,g2];refine X2 (Wr (a:=r) (b:=m) R.1 R.2 M.1 M.2 _) ?_;simp only[EE,Xd,rF];exact fin s3 rfl
theorem zgp(R:zL r)(M:zL m)(hs:¬sub=13)(w2:vQ h2)(s2:Sat (.of h) h2 [pt b (.cells (zC.row ⟨7,r,m,sub,cc,l,k⟩) 42)]):zH (.int .i64 7) (.pointer (some ⟨b,0,none⟩)) h2 (.int .u8 (zj 72 m r)) (jK h (ze ⟨7,r,m,sub,cc,l,k⟩ d)) (.int .u8 (zj 72 0 r)) (.int .u8 (zj 72 r m)) (.int .i64 d) J:=by
 have g2:=s2.get;have l2:=s2.lt;unfold zH;have s3:Sat (.of h) (h2.push (.cells [.int .u8 (zj 72 m r),.int .u8 (Go.En.kp sub),.int .u8 (zW m r)] 5)) (vu (.slice (some ⟨h2.next,0,none⟩) 3 5) [zj 72 m r,Go.En.kp sub,zW m r]::[pt b _]):=yE s2 [zj 72 m r,Go.En.kp sub,zW m r] 5 (by decide);simp only[EE,Int.reduceEq,zu,zg,zn,fo,vv,vk,wL,wi,xg,yY,g2,hs];refine eL (T7 sub _) ?_;simp only[EE,zu,zg,zJ,z7,rH,g2];refine eL (Wr (a:=m) (b:=r) M.1 M.2 R.1 R.2 _) ?_;simp only[EE,y8];refine fin s3 ?_;have e:ze ⟨7,r,m,sub,cc,l,k⟩ d=if sub=13 then [zj 72 r m,15,175,zW r m] else [zj 72 m r,Go.En.kp sub,zW m r]:=rfl;rw[e,aaf hs]
theorem zfd(R:zL r)(w2:vQ h2)(s2:Sat (.of h) h2 [pt b (.cells (zC.row ⟨8,r,m,13,cc,l,k⟩) 42)]):zH (.int .i64 8) (.pointer (some ⟨b,0,none⟩)) h2 (.int .u8 (zj 72 m r)) (jK h (ze ⟨8,r,m,13,cc,l,k⟩ d)) (.int .u8 (zj 72 0 r)) (.int .u8 (zj 72 r m)) (.int .i64 d) J:=by
 have g2:=s2.get;have l2:=s2.lt;unfold zH;have s3:Sat (.of h) (h2.push (.cells [.int .u8 (zj 72 r r),.int .u8 (105),.int .u8 (zW r r)] 5)) (vu (.slice (some ⟨h2.next,0,none⟩) 3 5) [zj 72 r r,105,zW r r]::[pt b _]):=yE s2 [zj 72 r r,105,zW r r] 5 (by decide);have gc:(cut (h2.push (.cells [.int .u8 (zj 72 r r),.int .u8 105,.int .u8 (zW r r)] 5)) h2.next (h2.next+1)).get b=some (.cells (zC.row ⟨8,r,m,13,cc,l,k⟩) 42):=kf (by rw[yq l2];exact g2) l2;simp only[EE,Int.reduceEq,zu,zg,zJ,zn,rK,fj,vT,vv,vk,wL,wi,xg,yY,g2];refine eL (VO (.inl rfl) r r _) ?_;simp only[EE,zu,zg,zJ,rJ,g2];refine eL (Wr (a:=r) (b:=r) R.1 R.2 R.1 R.2 _) ?_;simp only[EE,zu,yU,y8,zw,rI,gc];refine bX s3 (ZD w2 _) (n:=4) rfl (by decide) rfl (λ_ _=>VN) λv h' w rn s4=>?_;refine VL (s4.f [1,0]) (λq hq=>?_) (yw s4 aak) (by simp[xb]) rn λa n c h5 s5=>?_
 ·simp only[Go.Rtl.pS,aar]at hq;subst hq;exact⟨aaj _,aaJ _⟩
 ·simp only[EE];exact fin s5 rfl
theorem zgq(R:zL r)(hs:sub=11\/sub=12\/sub=16\/sub=17\/sub=18)(w2:vQ h2)(s2:Sat (.of h) h2 [pt b (.cells (zC.row ⟨8,r,m,sub,cc,l,k⟩) 42)]):zH (.int .i64 8) (.pointer (some ⟨b,0,none⟩)) h2 (.int .u8 (zj 72 m r)) (jK h (ze ⟨8,r,m,sub,cc,l,k⟩ d)) (.int .u8 (zj 72 0 r)) (.int .u8 (zj 72 r m)) (.int .i64 d) J:=by
 have g2:=s2.get;have l2:=s2.lt;unfold zH;have hs0:¬sub=13:=by omega
 have q:=H4 hs;have s3:Sat (.of h) (h2.push (.cells [.int .u8 (zj 72 0 r),.int .u8 (129),.int .u8 (zW (ZQ sub) r)] 5)) (vu (.slice (some ⟨h2.next,0,none⟩) 3 5) [zj 72 0 r,129,zW (ZQ sub) r]::[pt b _]):=yE s2 [zj 72 0 r,129,zW (ZQ sub) r] 5 (by decide);have gc:(cut (h2.push (.cells [.int .u8 (zj 72 0 r),.int .u8 129,.int .u8 (zW (ZQ sub) r)] 5)) h2.next (h2.next+1)).get b=some (.cells (zC.row ⟨8,r,m,sub,cc,l,k⟩) 42):=kf (by rw[yq l2];exact g2) l2;simp only[EE,Int.reduceEq,zu,zg,zn,rM,fj,vT,vv,vk,wL,wi,xg,yY,g2,hs0];refine eL (zbc sub _) ?_;simp only[EE,zu,zg,zJ,g2];refine eL (Wr (a:=ZQ sub) (b:=r) q.2.2.1 (by omega) R.1 R.2 _) ?_;simp only[EE,zu,yU,y8,zw,rL,gc];refine bX s3 (ZD w2 _) (n:=4) rfl (by decide) rfl (λ_ _=>VN) λv h' w rn s4=>?_;refine VL (s4.f [1,0]) (λq hq=>?_) (yw s4 aak) (by simp[xb]) rn λa n c h5 s5=>?_
 ·simp only[Go.Rtl.pS,aar]at hq;subst hq;exact⟨aaj _,aaJ _⟩
 ·simp only[EE];refine fin s5 ?_;have e:ze ⟨8,r,m,sub,cc,l,k⟩ d=if sub=13 then [zj 72 r r,105,zW r r]++yX 4 k else [zj 72 0 r,129,zW (ZQ sub) r]++yX 4 k:=rfl;rw[e,aaf hs0]
theorem zdE(R:zL r)(w2:vQ h2)(s2:Sat (.of h) h2 [pt b (.cells (zC.row ⟨9,r,m,2,cc,l,k⟩) 42)]):zH (.int .i64 9) (.pointer (some ⟨b,0,none⟩)) h2 (.int .u8 (zj 72 m r)) (jK h (ze ⟨9,r,m,2,cc,l,k⟩ d)) (.int .u8 (zj 72 0 r)) (.int .u8 (zj 72 r m)) (.int .i64 d) J:=by
 have g2:=s2.get;have l2:=s2.lt;unfold zH;have s3:Sat (.of h) (h2.push (.cells [.int .u8 (zj 72 0 r),.int .u8 (247),.int .u8 (zW 2 r)] 5)) (vu (.slice (some ⟨h2.next,0,none⟩) 3 5) [zj 72 0 r,247,zW 2 r]::[pt b _]):=yE s2 [zj 72 0 r,247,zW 2 r] 5 (by decide);simp only[EE,Int.reduceEq,zu,zg,zJ,zn,rN,fh,uC,vT,vv,vk,wL,wi,xg,yY,g2];refine X2 (Wr (a:=2) (b:=r) (show(0:Int)<=2/\(2:Int)<16 by decide).1 (show(0:Int)<=2/\(2:Int)<16 by decide).2 R.1 R.2 _) ?_;simp only[EE,y8];exact fin s3 rfl
theorem zdD(R:zL r)(w2:vQ h2)(s2:Sat (.of h) h2 [pt b (.cells (zC.row ⟨9,r,m,1,cc,l,k⟩) 42)]):zH (.int .i64 9) (.pointer (some ⟨b,0,none⟩)) h2 (.int .u8 (zj 72 m r)) (jK h (ze ⟨9,r,m,1,cc,l,k⟩ d)) (.int .u8 (zj 72 0 r)) (.int .u8 (zj 72 r m)) (.int .i64 d) J:=by
 have g2:=s2.get;have l2:=s2.lt;unfold zH;have s3:Sat (.of h) (h2.push (.cells [.int .u8 (zj 72 0 r),.int .u8 (247),.int .u8 (zW 3 r)] 5)) (vu (.slice (some ⟨h2.next,0,none⟩) 3 5) [zj 72 0 r,247,zW 3 r]::[pt b _]):=yE s2 [zj 72 0 r,247,zW 3 r] 5 (by decide);simp only[EE,Int.reduceEq,zu,zg,zJ,zn,rO,fh,uC,vT,vv,vk,wL,wi,xg,yY,g2];refine X2 (Wr (a:=3) (b:=r) (show(0:Int)<=3/\(3:Int)<16 by decide).1 (show(0:Int)<=3/\(3:Int)<16 by decide).2 R.1 R.2 _) ?_;simp only[EE,y8];exact fin s3 rfl
theorem za8(R:zL r)(M:zL m)(w2:vQ h2)(s2:Sat (.of h) h2 [pt b (.cells (zC.row ⟨10,r,m,3,cc,l,k⟩) 42)]):zH (.int .i64 10) (.pointer (some ⟨b,0,none⟩)) h2 (.int .u8 (zj 72 m r)) (jK h (ze ⟨10,r,m,3,cc,l,k⟩ d)) (.int .u8 (zj 72 0 r)) (.int .u8 (zj 72 r m)) (.int .i64 d) J:=by
 have g2:=s2.get;have l2:=s2.lt;unfold zH;have s3:Sat (.of h) (h2.push (.cells [.int .u8 (zj 72 r m),.int .u8 (15),.int .u8 (190),.int .u8 (zW r m)] 5)) (vu (.slice (some ⟨h2.next,0,none⟩) 4 6) [zj 72 r m,15,190,zW r m]::[pt b _]):=yE s2 [zj 72 r m,15,190,zW r m] 6 (by decide);simp only[EE,Int.reduceEq,zu,zg,zJ,z7,zn,rQ,fe,qw,uC,vT,vv,vk,wL,wi,xg,yY,g2];refine X2 (Wr (a:=r) (b:=m) R.1 R.2 M.1 M.2 _) ?_;simp only[EE,Xd,rP];exact fin s3 rfl
theorem za9(R:zL r)(M:zL m)(hs:¬sub=3)(w2:vQ h2)(s2:Sat (.of h) h2 [pt b (.cells (zC.row ⟨10,r,m,sub,cc,l,k⟩) 42)]):zH (.int .i64 10) (.pointer (some ⟨b,0,none⟩)) h2 (.int .u8 (zj 72 m r)) (jK h (ze ⟨10,r,m,sub,cc,l,k⟩ d)) (.int .u8 (zj 72 0 r)) (.int .u8 (zj 72 r m)) (.int .i64 d) J:=by
 have g2:=s2.get;have l2:=s2.lt;unfold zH;have s3:Sat (.of h) (h2.push (.cells [.int .u8 (zj 72 r m),.int .u8 (99),.int .u8 (zW r m)] 5)) (vu (.slice (some ⟨h2.next,0,none⟩) 3 5) [zj 72 r m,99,zW r m]::[pt b _]):=yE s2 [zj 72 r m,99,zW r m] 5 (by decide);simp only[EE,Int.reduceEq,zu,zg,zJ,z7,zn,rR,fe,qw,uC,vT,vv,vk,wL,wi,xg,yY,g2,hs];refine X2 (Wr (a:=r) (b:=m) R.1 R.2 M.1 M.2 _) ?_;simp only[EE,y8];refine fin s3 ?_;have e:ze ⟨10,r,m,sub,cc,l,k⟩ d=if sub=3 then [zj 72 r m,15,190,zW r m] else [zj 72 r m,99,zW r m]:=rfl;rw[e,aaf hs]
theorem zdt(R:zL r)(w2:vQ h2)(s2:Sat (.of h) h2 [pt b (.cells (zC.row ⟨11,r,m,19,cc,l,k⟩) 42)]):zH (.int .i64 11) (.pointer (some ⟨b,0,none⟩)) h2 (.int .u8 (zj 72 m r)) (jK h (ze ⟨11,r,m,19,cc,l,k⟩ d)) (.int .u8 (zj 72 0 r)) (.int .u8 (zj 72 r m)) (.int .i64 d) J:=by
 have g2:=s2.get;have l2:=s2.lt;unfold zH;have s3:Sat (.of h) (h2.push (.cells [.int .u8 (zj 72 0 r),.int .u8 (193),.int .u8 (zW 4 r),.int .u8 (IntKind.wrap .u8 k)] 5)) (vu (.slice (some ⟨h2.next,0,none⟩) 4 6) [zj 72 0 r,193,zW 4 r,IntKind.wrap .u8 k]::[pt b _]):=yE s2 [zj 72 0 r,193,zW 4 r,IntKind.wrap .u8 k] 6 (by decide);simp only[EE,Int.reduceEq,zu,zg,zn,eZ,ku,qw,uC,vT,vv,vk,wL,wi,xg,yY,g2];refine eL (rf (s:=19) (by decide) _) ?_;simp only[EE,zu,zg,zJ,g2];refine eL (Wr (a:=kF 19) (b:=r) (show(0:Int)<=kF 19/\(kF 19:Int)<16 by decide).1 (show(0:Int)<=kF 19/\(kF 19:Int)<16 by decide).2 R.1 R.2 _) ?_;simp only[EE,zu,yU,Xd,mJ,zw,eV,g2];exact fin s3 rfl
theorem zdv(R:zL r)(w2:vQ h2)(s2:Sat (.of h) h2 [pt b (.cells (zC.row ⟨12,r,m,19,cc,l,k⟩) 42)]):zH (.int .i64 12) (.pointer (some ⟨b,0,none⟩)) h2 (.int .u8 (zj 72 m r)) (jK h (ze ⟨12,r,m,19,cc,l,k⟩ d)) (.int .u8 (zj 72 0 r)) (.int .u8 (zj 72 r m)) (.int .i64 d) J:=by
 have g2:=s2.get;have l2:=s2.lt;unfold zH;have s3:Sat (.of h) (h2.push (.cells [.int .u8 (zj 72 0 r),.int .u8 (211),.int .u8 (zW 4 r)] 5)) (vu (.slice (some ⟨h2.next,0,none⟩) 3 5) [zj 72 0 r,211,zW 4 r]::[pt b _]):=yE s2 [zj 72 0 r,211,zW 4 r] 5 (by decide);simp only[EE,Int.reduceEq,zu,zg,zn,Zo,ku,qw,uC,vT,vv,vk,wL,wi,xg,yY,g2];refine eL (rf (s:=19) (by decide) _) ?_;simp only[EE,zu,zg,zJ,eW,g2];refine eL (Wr (a:=kF 19) (b:=r) (show(0:Int)<=kF 19/\(kF 19:Int)<16 by decide).1 (show(0:Int)<=kF 19/\(kF 19:Int)<16 by decide).2 R.1 R.2 _) ?_;simp only[EE,y8];exact fin s3 rfl
theorem zdu(R:zL r)(w2:vQ h2)(s2:Sat (.of h) h2 [pt b (.cells (zC.row ⟨11,r,m,20,cc,l,k⟩) 42)]):zH (.int .i64 11) (.pointer (some ⟨b,0,none⟩)) h2 (.int .u8 (zj 72 m r)) (jK h (ze ⟨11,r,m,20,cc,l,k⟩ d)) (.int .u8 (zj 72 0 r)) (.int .u8 (zj 72 r m)) (.int .i64 d) J:=by
 have g2:=s2.get;have l2:=s2.lt;unfold zH;have s3:Sat (.of h) (h2.push (.cells [.int .u8 (zj 72 0 r),.int .u8 (193),.int .u8 (zW 7 r),.int .u8 (IntKind.wrap .u8 k)] 5)) (vu (.slice (some ⟨h2.next,0,none⟩) 4 6) [zj 72 0 r,193,zW 7 r,IntKind.wrap .u8 k]::[pt b _]):=yE s2 [zj 72 0 r,193,zW 7 r,IntKind.wrap .u8 k] 6 (by decide);simp only[EE,Int.reduceEq,zu,zg,zn,eZ,ku,qw,uC,vT,vv,vk,wL,wi,xg,yY,g2];refine eL (rf (s:=20) (by decide) _) ?_;simp only[EE,zu,zg,zJ,g2];refine eL (Wr (a:=kF 20) (b:=r) (show(0:Int)<=kF 20/\(kF 20:Int)<16 by decide).1 (show(0:Int)<=kF 20/\(kF 20:Int)<16 by decide).2 R.1 R.2 _) ?_;simp only[EE,zu,yU,Xd,mJ,zw,eV,g2];exact fin s3 rfl
theorem zdw(R:zL r)(w2:vQ h2)(s2:Sat (.of h) h2 [pt b (.cells (zC.row ⟨12,r,m,20,cc,l,k⟩) 42)]):zH (.int .i64 12) (.pointer (some ⟨b,0,none⟩)) h2 (.int .u8 (zj 72 m r)) (jK h (ze ⟨12,r,m,20,cc,l,k⟩ d)) (.int .u8 (zj 72 0 r)) (.int .u8 (zj 72 r m)) (.int .i64 d) J:=by
 have g2:=s2.get;have l2:=s2.lt;unfold zH;have s3:Sat (.of h) (h2.push (.cells [.int .u8 (zj 72 0 r),.int .u8 (211),.int .u8 (zW 7 r)] 5)) (vu (.slice (some ⟨h2.next,0,none⟩) 3 5) [zj 72 0 r,211,zW 7 r]::[pt b _]):=yE s2 [zj 72 0 r,211,zW 7 r] 5 (by decide);simp only[EE,Int.reduceEq,zu,zg,zn,Zo,ku,qw,uC,vT,vv,vk,wL,wi,xg,yY,g2];refine eL (rf (s:=20) (by decide) _) ?_;simp only[EE,zu,zg,zJ,eW,g2];refine eL (Wr (a:=kF 20) (b:=r) (show(0:Int)<=kF 20/\(kF 20:Int)<16 by decide).1 (show(0:Int)<=kF 20/\(kF 20:Int)<16 by decide).2 R.1 R.2 _) ?_;simp only[EE,y8];exact fin s3 rfl
theorem ze6  (w2:vQ h2)(s2:Sat (.of h) h2 [pt b (.cells (zC.row ⟨13,r,m,sub,cc,l,k⟩) 42)]):zH (.int .i64 13) (.pointer (some ⟨b,0,none⟩)) h2 (.int .u8 (zj 72 m r)) (jK h (ze ⟨13,r,m,sub,cc,l,k⟩ d)) (.int .u8 (zj 72 0 r)) (.int .u8 (zj 72 r m)) (.int .i64 d) J:=by
 have g2:=s2.get;have l2:=s2.lt;unfold zH;have s3:Sat (.of h) (h2.push (.cells [.int .u8 72,.int .u8 153] 5)) (vu (.slice (some ⟨h2.next,0,none⟩) 2 4) [72,153]::[pt b _]):=yE s2 [72,153] 4 (by decide);simp only[EE,Int.reduceEq,xe,Xh,Zo,ku,qw,uC,vT,vv,vk,wL,wi,xg,yY];exact fin s3 rfl
theorem ze7(M:zL m)(w2:vQ h2)(s2:Sat (.of h) h2 [pt b (.cells (zC.row ⟨14,r,m,sub,cc,l,k⟩) 42)]):zH (.int .i64 14) (.pointer (some ⟨b,0,none⟩)) h2 (.int .u8 (zj 72 m r)) (jK h (ze ⟨14,r,m,sub,cc,l,k⟩ d)) (.int .u8 (zj 72 0 r)) (.int .u8 (zj 72 r m)) (.int .i64 d) J:=by
 have g2:=s2.get;have l2:=s2.lt;unfold zH;have s3:Sat (.of h) (h2.push (.cells [.int .u8 (zj 72 0 m),.int .u8 (247),.int .u8 (zW 7 m)] 5)) (vu (.slice (some ⟨h2.next,0,none⟩) 3 5) [zj 72 0 m,247,zW 7 m]::[pt b _]):=yE s2 [zj 72 0 m,247,zW 7 m] 5 (by decide);simp only[EE,Int.reduceEq,zu,zg,z7,r5,Wy,Xh,Zo,ku,qw,uC,vT,vv,vk,wL,wi,xg,yY,g2];refine eL (VO (.inl rfl) 0 m _) ?_;simp only[EE,zu,zg,z7,rS,g2];refine eL (Wr (a:=7) (b:=m) (show(0:Int)<=7/\(7:Int)<16 by decide).1 (show(0:Int)<=7/\(7:Int)<16 by decide).2 M.1 M.2 _) ?_;simp only[EE,y8];exact fin s3 rfl
theorem ze8(R:zL r)(M:zL m)(w2:vQ h2)(s2:Sat (.of h) h2 [pt b (.cells (zC.row ⟨15,r,m,sub,cc,l,k⟩) 42)]):zH (.int .i64 15) (.pointer (some ⟨b,0,none⟩)) h2 (.int .u8 (zj 72 m r)) (jK h (ze ⟨15,r,m,sub,cc,l,k⟩ d)) (.int .u8 (zj 72 0 r)) (.int .u8 (zj 72 r m)) (.int .i64 d) J:=by
 have g2:=s2.get;have l2:=s2.lt;unfold zH;have s3:Sat (.of h) (h2.push (.cells [.int .u8 (zj 72 m r),.int .u8 (57),.int .u8 (zW m r)] 5)) (vu (.slice (some ⟨h2.next,0,none⟩) 3 5) [zj 72 m r,57,zW m r]::[pt b _]):=yE s2 [zj 72 m r,57,zW m r] 5 (by decide);simp only[EE,Int.reduceEq,zu,zg,zJ,z7,rZ,Us,Wy,Xh,Zo,ku,qw,uC,vT,vv,vk,wL,wi,xg,yY,g2];refine X2 (Wr (a:=m) (b:=r) M.1 M.2 R.1 R.2 _) ?_;simp only[EE,y8];exact fin s3 rfl
theorem ze9(R:zL r)(w2:vQ h2)(s2:Sat (.of h) h2 [pt b (.cells (zC.row ⟨16,r,m,sub,cc,l,k⟩) 42)]):zH (.int .i64 16) (.pointer (some ⟨b,0,none⟩)) h2 (.int .u8 (zj 72 m r)) (jK h (ze ⟨16,r,m,sub,cc,l,k⟩ d)) (.int .u8 (zj 72 0 r)) (.int .u8 (zj 72 r m)) (.int .i64 d) J:=by
 have g2:=s2.get;have l2:=s2.lt;unfold zH;have s3:Sat (.of h) (h2.push (.cells [.int .u8 (zj 72 0 r),.int .u8 (129),.int .u8 (zW 7 r)] 5)) (vu (.slice (some ⟨h2.next,0,none⟩) 3 5) [zj 72 0 r,129,zW 7 r]::[pt b _]):=yE s2 [zj 72 0 r,129,zW 7 r] 5 (by decide);have gc:(cut (h2.push (.cells [.int .u8 (zj 72 0 r),.int .u8 129,.int .u8 (zW 7 r)] 5)) h2.next (h2.next+1)).get b=some (.cells (zC.row ⟨16,r,m,sub,cc,l,k⟩) 42):=kf (by rw[yq l2];exact g2) l2;simp only[EE,Int.reduceEq,zu,zg,zJ,KY,Us,Wy,Xh,Zo,ku,qw,uC,vT,vv,vk,wL,wi,xg,yY,g2];refine eL (Wr (a:=7) (b:=r) (show(0:Int)<=7/\(7:Int)<16 by decide).1 (show(0:Int)<=7/\(7:Int)<16 by decide).2 R.1 R.2 _) ?_;simp only[EE,zu,yU,y8,zw,rT,gc];refine bX s3 (ZD w2 _) (n:=4) rfl (by decide) rfl (λ_ _=>VN) λv h' w rn s4=>?_;refine VL (s4.f [1,0]) (λq hq=>?_) (yw s4 aak) (by simp[xb]) rn λa n c h5 s5=>?_
 ·simp only[Go.Rtl.pS,aar]at hq;subst hq;exact⟨aaj _,aaJ _⟩
 ·simp only[EE];exact fin s5 rfl
theorem zfa(R:zL r)(c0:21<=cc)(c1:cc<=26)(w2:vQ h2)(s2:Sat (.of h) h2 [pt b (.cells (zC.row ⟨17,r,m,sub,cc,l,k⟩) 42)]):zH (.int .i64 17) (.pointer (some ⟨b,0,none⟩)) h2 (.int .u8 (zj 72 m r)) (jK h (ze ⟨17,r,m,sub,cc,l,k⟩ d)) (.int .u8 (zj 72 0 r)) (.int .u8 (zj 72 r m)) (.int .i64 d) J:=by
 have g2:=s2.get;have l2:=s2.lt;unfold zH;have cb:=JF cc
 have q:IntKind.wrap .u8 (144+vd cc)=144+vd cc:=by
  have:∀n:Int,IntKind.wrap .u8 n=n%256:=KR;rw[this];omega
 have s3:Sat (.of h) (h2.push (.cells [.int .u8 (zj 64 0 r),.int .u8 (15),.int .u8 (144+vd cc),.int .u8 (zW 0 r),.int .u8 (zj 72 r r),.int .u8 (15),.int .u8 (182),.int .u8 (zW r r)] 5)) (vu (.slice (some ⟨h2.next,0,none⟩) 8 10) [zj 64 0 r,15,144+vd cc,zW 0 r,zj 72 r r,15,182,zW r r]::[pt b _]):=yE s2 [zj 64 0 r,15,144+vd cc,zW 0 r,zj 72 r r,15,182,zW r r] 10 (by decide);simp only[EE,Int.reduceEq,zu,zg,zJ,rY,eY,KY,Us,Wy,Xh,Zo,ku,qw,uC,vT,vv,vk,wL,wi,xg,yY,g2];refine eL (VO (.inr rfl) 0 r _) ?_;simp only[EE,zu,zg,QI,g2];refine eL (S9 c0 c1 _) ?_;simp only[EE,zu,zg,zJ,rX,g2,q];refine eL (Wr (a:=0) (b:=r) (show(0:Int)<=0/\(0:Int)<16 by decide).1 (show(0:Int)<=0/\(0:Int)<16 by decide).2 R.1 R.2 _) ?_;simp only[EE,zu,zg,zJ,rW,g2];refine eL (VO (.inl rfl) r r _) ?_;simp only[EE,zu,zg,zJ,rV,g2];refine eL (Wr (a:=r) (b:=r) R.1 R.2 R.1 R.2 _) ?_;simp only[EE,Ky,rU];exact fin s3 rfl
end
section
variable {h h2:za}{b:Nat}{r m sub cc l k d:Int}{J:List aaa->za->Prop}
theorem zcc  (s2:Sat (.of h) h2 [pt b (.cells (zC.row ⟨18,r,m,sub,cc,l,k⟩) 42)]):ud (.int .i64 18) h2 (.int .i64 d) (jK h (ze ⟨18,r,m,sub,cc,l,k⟩ d)) (.pointer (some ⟨b,0,none⟩)) J:=by
 have g2:=s2.get;have l2:=s2.lt;unfold ud;have s3:Sat (.of h) (h2.push (.cells [.int .u8 233] 5)) (vu (.slice (some ⟨h2.next,0,none⟩) 1 3) [233]::[pt b _]):=yE s2 [233] 3 (by decide);simp only[EE,yL,Dc];refine Is s3 (n:=4) rfl (by decide) λv h' rn s4=>?_;refine XT s4 (by simp[xb]) λv3 h6 rn3 s6=>?_;simp only[EE,rn3];exact fin s6 rfl
theorem zcd(c0:21<=cc)(c1:cc<=26)(s2:Sat (.of h) h2 [pt b (.cells (zC.row ⟨19,r,m,sub,cc,l,k⟩) 42)]):ud (.int .i64 19) h2 (.int .i64 d) (jK h (ze ⟨19,r,m,sub,cc,l,k⟩ d)) (.pointer (some ⟨b,0,none⟩)) J:=by
 have g2:=s2.get;have l2:=s2.lt;unfold ud;have cb:=JF cc
 have q:IntKind.wrap .u8 (128+vd cc)=128+vd cc:=by
  have:∀n:Int,IntKind.wrap .u8 n=n%256:=KR;rw[this];omega
 have s3:Sat (.of h) (h2.push (.cells [.int .u8 (15),.int .u8 (128+vd cc)] 5)) (vu (.slice (some ⟨h2.next,0,none⟩) 2 4) [15,128+vd cc]::[pt b _]):=yE s2 [15,128+vd cc] 4 (by decide);simp only[EE,Int.reduceEq,zu,zg,QI,YG,g2];refine X2 (S9 c0 c1 _) ?_;simp only[EE,xe,Hp,q];refine Is s3 (n:=4) rfl (by decide) λv h' rn s4=>?_;refine XT s4 (by simp[xb]) λv3 h6 rn3 s6=>?_;simp only[EE,rn3];exact fin s6 rfl
theorem zcf  (s2:Sat (.of h) h2 [pt b (.cells (zC.row ⟨21,r,m,sub,cc,l,k⟩) 42)]):ud (.int .i64 21) h2 (.int .i64 d) (jK h (ze ⟨21,r,m,sub,cc,l,k⟩ d)) (.pointer (some ⟨b,0,none⟩)) J:=by
 have g2:=s2.get;have l2:=s2.lt;unfold ud;have s3:Sat (.of h) (h2.push (.cells [.int .u8 232] 5)) (vu (.slice (some ⟨h2.next,0,none⟩) 1 3) [232]::[pt b _]):=yE s2 [232] 3 (by decide);simp only[EE,Int.reduceEq,yL,Hs,XR,YG];refine Is s3 (n:=4) rfl (by decide) λv h' rn s4=>?_;refine XT s4 (by simp[xb]) λv3 h6 rn3 s6=>?_;simp only[EE,rn3];exact fin s6 rfl
theorem zcg  (s2:Sat (.of h) h2 [pt b (.cells (zC.row ⟨22,r,m,sub,cc,l,k⟩) 42)]):ud (.int .i64 22) h2 (.int .i64 d) (jK h (ze ⟨22,r,m,sub,cc,l,k⟩ d)) (.pointer (some ⟨b,0,none⟩)) J:=by
 have g2:=s2.get;have l2:=s2.lt;unfold ud;have s3:Sat (.of h) (h2.push (.cells [.int .u8 195] 5)) (vu (.slice (some ⟨h2.next,0,none⟩) 1 3) [195]::[pt b _]):=yE s2 [195] 3 (by decide);simp only[EE,Int.reduceEq,yL,Uz,XR,YG];exact fin s3 rfl
theorem zch  (s2:Sat (.of h) h2 [pt b (.cells (zC.row ⟨23,r,m,sub,cc,l,k⟩) 42)]):ud (.int .i64 23) h2 (.int .i64 d) (jK h (ze ⟨23,r,m,sub,cc,l,k⟩ d)) (.pointer (some ⟨b,0,none⟩)) J:=by
 have g2:=s2.get;have l2:=s2.lt;unfold ud;have s3:Sat (.of h) (h2.push (.cells [.int .u8 72,.int .u8 129,.int .u8 236] 5)) (vu (.slice (some ⟨h2.next,0,none⟩) 3 5) [72,129,236]::[pt b _]):=yE s2 [72,129,236] 5 (by decide);simp only[EE,Int.reduceEq,zu,yU,y8,zw,Hr,Km,Uz,XR,YG,g2,l2];refine Is s3 (n:=4) rfl (by decide) λv h' rn s4=>?_;refine XT s4 (by simp[xb]) λv3 h6 rn3 s6=>?_;simp only[EE,rn3];exact fin s6 rfl
theorem zci  (s2:Sat (.of h) h2 [pt b (.cells (zC.row ⟨24,r,m,sub,cc,l,k⟩) 42)]):ud (.int .i64 24) h2 (.int .i64 d) (jK h (ze ⟨24,r,m,sub,cc,l,k⟩ d)) (.pointer (some ⟨b,0,none⟩)) J:=by
 have g2:=s2.get;have l2:=s2.lt;unfold ud;have s3:Sat (.of h) (h2.push (.cells [.int .u8 72,.int .u8 129,.int .u8 196] 5)) (vu (.slice (some ⟨h2.next,0,none⟩) 3 5) [72,129,196]::[pt b _]):=yE s2 [72,129,196] 5 (by decide);simp only[EE,Int.reduceEq,zu,yU,y8,zw,Hq,a9,Km,Uz,XR,YG,g2,l2];refine Is s3 (n:=4) rfl (by decide) λv h' rn s4=>?_;refine XT s4 (by simp[xb]) λv3 h6 rn3 s6=>?_;simp only[EE,rn3];exact fin s6 rfl
theorem zcj  (s2:Sat (.of h) h2 [pt b (.cells (zC.row ⟨25,r,m,sub,cc,l,k⟩) 42)]):ud (.int .i64 25) h2 (.int .i64 d) (jK h (ze ⟨25,r,m,sub,cc,l,k⟩ d)) (.pointer (some ⟨b,0,none⟩)) J:=by
 have g2:=s2.get;have l2:=s2.lt;unfold ud;have s3:Sat (.of h) (h2.push (.cells [.int .u8 72,.int .u8 237] 5)) (vu (.slice (some ⟨h2.next,0,none⟩) 2 4) [72,237]::[pt b _]):=yE s2 [72,237] 4 (by decide);simp only[EE,Int.reduceEq,xe,iB,a9,Km,Uz,XR,YG];exact fin s3 rfl
theorem zck  (s2:Sat (.of h) h2 [pt b (.cells (zC.row ⟨26,r,m,sub,cc,l,k⟩) 42)]):ud (.int .i64 26) h2 (.int .i64 d) (jK h (ze ⟨26,r,m,sub,cc,l,k⟩ d)) (.pointer (some ⟨b,0,none⟩)) J:=by
 have g2:=s2.get;have l2:=s2.lt;unfold ud;have s3:Sat (.of h) (h2.push (.cells [.int .u8 72,.int .u8 239] 5)) (vu (.slice (some ⟨h2.next,0,none⟩) 2 4) [72,239]::[pt b _]):=yE s2 [72,239] 4 (by decide);simp only[EE,Int.reduceEq,xe,tR,iB,a9,Km,Uz,XR,YG];exact fin s3 rfl
theorem zce(hJ:∀vs,J vs h2):ud (.int .i64 20) h2 (.int .i64 d) (jK h (ze ⟨20,r,m,sub,cc,l,k⟩ d)) (.pointer (some ⟨b,0,none⟩)) J:=by
 unfold ud;simp only[EE,nth,Int.reduceEq,tR,iB,a9,Km,Uz,XR,YG];exact hJ _
end
section
variable {h:za}{x:zC}{d:Int}
theorem zez(Y:lK x)(hx:18<=x.op):DC Tryz.prog 63 [x.val,.int .i64 d] h (jK h (ze x d)):=by
 apply YZ;intro wf;apply Pf;unfold So;obtain⟨op,r,m,sub,cc,l,k⟩:=x;obtain⟨Yop,YR,YM,Yalu,Ysiz,Yun,Yext,Ysh,Ycc⟩:=Y;have s0:=Sat.self wf.2;simp only[EE,Value.cells];refine qc s0 λb h2 s2=>?_;have g2:=s2.get;simp only[EE,↓zq,zu,zg,SW,zc,g2];simp only at Yop YR YM Yalu Ysiz Yun Yext Ysh Ycc hx;have:op=18\/op=19\/op=20\/op=21\/op=22\/op=23\/op=24\/op=25\/op=26:=by omega
 rcases this with rfl|rfl|rfl|rfl|rfl|rfl|rfl|rfl|rfl
 ·exact zcc s2
 ·exact zcd (Ycc (.inr rfl)).1 (Ycc (.inr rfl)).2 s2
 ·refine zce λvs=>?_;exact fin (yE s2 [] 2 (by decide)) rfl
 ·exact zcf s2
 ·exact zcg s2
 ·exact zch s2
 ·exact zci s2
 ·exact zcj s2
 ·exact zck s2
theorem du(Y:lK x)(d:Int):DC Tryz.prog 29 [x.val,.int .i64 d] h (jK h (ze x d)):=by
 apply YZ;intro wf;apply Lh;unfold M1;have Z:=Y
 have go:∀{h2:za} {b:Nat},Sat (.of h) h2 [pt b (.cells x.row 42)]->18<=x.op->(zF Tryz.prog (.func (.func 63) #[] #[]) [x.val,.int .i64 d] h2 (λt200 h122=>rv [t200] h122 (jK h (ze x d)))):=λ{h2 b} s2 hx=>by
  refine Kd (zez Y hx) ?_;rintro v h3 s3;have s4:=s2.join s3;have vn:=y9 s3;simp only[EE,vn];exact fin s4 rfl
 obtain⟨op,r,m,sub,cc,l,k⟩:=x;obtain⟨Yop,YR,YM,Yalu,Ysiz,Yun,Yext,Ysh,Ycc⟩:=Z;have s0:=Sat.self wf.2;simp only[EE,Value.cells];refine By s0 wf λb h2 w2 s2=>?_;have g2:=s2.get;simp only[EE,zu,zg,zJ,z7,g2];refine X2 (VO (.inl rfl) r m _) ?_;simp only[EE,zu,zg,zJ,z7,si,g2];refine X2 (VO (.inl rfl) m r _) ?_;simp only[EE,zu,zg,zJ,sg,g2];refine X2 (VO (.inl rfl) 0 r _) ?_;simp only[EE,↓zq,qQ,zu,zg,wK,zc,sd,g2];simp only at Yop YR YM Yalu Ysiz Yun Yext Ysh Ycc go;by_cases h1:op=1
 ·subst h1;exact zgl (YR rfl) (YM rfl) w2 s2
 by_cases h2':op=2
 ·subst h2';by_cases hk:Go.Ar.zQ k=true
  ·exact zgm (YR rfl) hk w2 s2
  ·exact zfb (YR rfl) hk w2 s2
 by_cases h3:op=3
 ·subst h3;rcases Ysiz (.inl rfl) with rfl|rfl|rfl
  ·exact zdx (YR rfl) (YM rfl) w2 s2
  ·exact zdy (YR rfl) (YM rfl) w2 s2
  ·exact zdz (YR rfl) (YM rfl) w2 s2
 by_cases h4:op=4
 ·subst h4;rcases Ysiz (.inr rfl) with rfl|rfl|rfl
  ·exact zdA (YR rfl) (YM rfl) w2 s2
  ·exact zdB (YR rfl) (YM rfl) w2 s2
  ·exact zdC (YR rfl) (YM rfl) w2 s2
 by_cases h5:op=5
 ·subst h5;exact zgn (YR rfl) (YM rfl) w2 s2
 by_cases h6:op=6
 ·subst h6;exact zgo (YR rfl) w2 s2
 by_cases h7:op=7
 ·subst h7;by_cases hs:sub=13
  ·subst hs;exact zfc (YR rfl) (YM rfl) w2 s2
  ·exact zgp (YR rfl) (YM rfl) hs w2 s2
 by_cases h8:op=8
 ·subst h8;by_cases hs:sub=13
  ·subst hs;exact zfd (YR rfl) w2 s2
  ·have:=Yalu (.inr rfl);exact zgq (YR rfl) (by omega) w2 s2
 by_cases h9:op=9
 ·subst h9;rcases Yun rfl with rfl|rfl
  ·exact zdD (YR rfl) w2 s2
  ·exact zdE (YR rfl) w2 s2
 by_cases h10:op=10
 ·subst h10;rcases Yext rfl with rfl|rfl
  ·exact za8 (YR rfl) (YM rfl) w2 s2
  ·exact za9 (YR rfl) (YM rfl) (by decide) w2 s2
 by_cases h11:op=11
 ·subst h11;rcases Ysh (.inl rfl) with rfl|rfl
  ·exact zdt (YR rfl) w2 s2
  ·exact zdu (YR rfl) w2 s2
 by_cases h12:op=12
 ·subst h12;rcases Ysh (.inr rfl) with rfl|rfl
  ·exact zdv (YR rfl) w2 s2
  ·exact zdw (YR rfl) w2 s2
 by_cases h13:op=13
 ·subst h13;exact ze6 w2 s2
 by_cases h14:op=14
 ·subst h14;exact ze7 (YM rfl) w2 s2
 by_cases h15:op=15
 ·subst h15;exact ze8 (YR rfl) (YM rfl) w2 s2
 by_cases h16:op=16
 ·subst h16;exact ze9 (YR rfl) w2 s2
 by_cases h17:op=17
 ·subst h17;exact zfa (YR rfl) (Ycc (.inl rfl)).1 (Ycc (.inl rfl)).2 w2 s2
 unfold zH;simp only[EE,Nat.reduceAdd,eY,KY,Us,Wy,Xh,Zo,ku,qw,uC,vT,vv,vk,wL,wi,xg,yY,h1,h2',h3,h4,h5,h6,h7,h8,h9,h10,h11,h12,h13,h14,h15,h16,h17,g2];exact go s2 (by omega)
end
open Go.Rm (ZG W7 wD wJ xf vq xH zV Rd Rd.of Rd.at)
open Go.As (ZO qI)
section
variable {lo:yT}{h:za}{L:List HP}{gv sv:aaa}{gl zs:List Int}
theorem pY(zs:List Int):∀r,r∈zs.map zV->r.length=1:=xH (f:=zV) (λ_=>rfl) zs
theorem Ue(s:Sat lo h (ZG 2 1 sv (zs.map zV)::L))(z:Int)(Ui:zs.length<=1000000) :
  ∃b c h',(∀r,zB Tryz.prog .append [67,67] r [sv,.slice (some ⟨h.next,0,none⟩) 1 3] (h.push (.cells [.int .i64 z] 2))=some (.slice (some ⟨b,0,none⟩) (zs.length+1) c,h'))/\Sat lo h' (ZG 2 1 (.slice (some ⟨b,0,none⟩) (zs.length+1) c) ((zs++[z]).map zV)::L):=by
 have s1:=s.push (.cells [.int .i64 z] 2);obtain⟨b',c',h',a1,s2⟩:=W7 (s1.p 1) (pY zs) [.int .i64 z] rfl (by decide) 8 (by rw[aau];omega);rw[aau]at a1 s2;refine⟨b',c',h',λr=>?_,?_⟩
 ·rw[YT r _ _ 1 [.int .i64 z] _ rfl (by simp only[kh,wt];rfl) rfl rfl];exact a1
 ·rw[abo];exact(s2.p 1).drop
theorem DN{g a:Int}(g0:0<=g)(g1:g<=65536)(a0:0<=a)(a1:a<=100000000):IntKind.wrap .i64 (a+IntKind.wrap .i64 (IntKind.wrap .i64 ((IntKind.wrap .i64 (g+31)).tdiv 16)*16))=a+(g+31)/16*16:=by
 have e1:IntKind.wrap .i64 (g+31)=g+31:=Go.Mem.OV (by omega) (by omega);have e2:(g+31).tdiv 16=(g+31)/16:=Int.tdiv_eq_ediv_of_nonneg (by omega);have e3:IntKind.wrap .i64 ((g+31)/16)=(g+31)/16:=Go.Mem.OV (by omega) (by omega);have e4:IntKind.wrap .i64 ((g+31)/16*16)=(g+31)/16*16:=Go.Mem.OV (by omega) (by omega);rw[e1,e2,e3,e4,Go.Mem.OV (by omega) (by omega)]
theorem BG(S:zK h gv gl)(hg:∀g,g∈gl->0<=g/\g<=65536)(Ui:gl.length<=1000):DC Tryz.prog 25 [gv] h (λr h'=>Sat (.of h) h' [ZG 2 1 r ((vh gl 16777216).map zV)]):=by
 apply YZ;intro wf;apply Hn;unfold Hm;have s0:Sat (.of h) h []:=Sat.self wf.2;have R:Rd (.of h) (zK · gv gl):=Rd.of (yT.jH h) S λh' o=>S.old o;have gn:=S.ai;have ln:=qI S 3 h;simp only[EE,↓zq,gn,ln];refine qo (λm vs h'=>∃(i:Nat) (r:aaa),i<=gl.length/\m=gl.length-i/\vs=[.int .i64 (Vx (gl.take i) 16777216),r,.int .i64 (i:Nat)]/\Sat (.of h) h' [ZG 2 1 r ((vh (gl.take i) 16777216).map zV)]) gl.length ⟨0,.slice none 0 0,aaP _,rfl,rfl,wJ _ _ s0⟩ ?_;rintro m vs h' ⟨i,r,hi,rfl,rfl,s⟩;have rn:=xf s;unfold tQ;by_cases hc:(i:Int)<(gl.length:Int)
 ·obtain⟨g,hgi⟩:∃g,gl[i]? = some g:=⟨_,aag (by omega)⟩;have gb:=hg g (aaz hgi);obtain⟨b,o,c,t,a1,a2,a3,a4⟩:=ZO (R.at s) hgi;have et:gl.take (i+1)=gl.take i++[g]:=by rw[abd,hgi];rfl
  have eb:=bP (gl.take i) 16777216 λx hx=>hg x (abp hx);rw[aaM,abV hi]at eb;have hl:(vh (gl.take i) 16777216).length=i:=by rw[Up,aaM,abV hi]
  obtain⟨b2,c2,h2,e1,s2⟩:=Ue s (Vx (gl.take i) 16777216) (by omega);have w1:IntKind.wrap .i64 (g+16)=g+16:=Go.Mem.OV (by omega) (by omega);have w2:IntKind.wrap .i64 (g+16+16)=g+32:=by rw[Go.Mem.OV (by omega) (by omega)];omega
  have w3:g+32-1=g+31:=by omega
  have w4:=DN gb.1 gb.2 (show 0<=Vx (gl.take i) 16777216 by omega) (by omega);have hin:=inc (show i<4611686018427387904 by omega);simp only[EE,nth,↓zq,Int.reduceEq,zu,zg,vm,tO,tP,hc,a1,a3,a4,rn,e1,w1,w2,w3,w4,hin];refine⟨gl.length-(i+1),by omega,i+1,.slice (some ⟨b2,0,none⟩) ((vh (gl.take i) 16777216).length+1) c2,by omega,rfl,?_,?_⟩
  ·rw[et,(UT g (gl.take i) 16777216).2]
  ·rw[et,(UT g (gl.take i) 16777216).1];exact s2
 ·have e:i=gl.length:=by omega
  subst e;rw[abv]at s;simp only[EE,nth,hc,rn];exact s
theorem YL(S:zK h gv gl)(hg:∀g,g∈gl->0<=g/\g<=65536)(Ui:gl.length<=1000):DC Tryz.prog 30 [gv] h (λr h'=>Sat (.of h) h' [ZG 2 1 r ((vh gl 16777216).map zV)]):=by
 apply YZ;intro wf;apply Gg;unfold Gf;have s0:Sat (.of h) h []:=Sat.self wf.2;have R:Rd (.of h) (zK · gv gl):=Rd.of (yT.jH h) S λh' o=>S.old o;have gn:=S.ai;have ln:=λh=>qI S 3 h;simp only[Int.reduceLE];refine qo (λm vs h'=>∃(i:Nat) (r:aaa),i<=gl.length/\m=gl.length-i/\vs=[r,.int .i64 (Vx (gl.take i) 16777216),.int .i64 (i:Nat)]/\Sat (.of h) h' [ZG 2 1 r ((vh (gl.take i) 16777216).map zV)]) gl.length ⟨0,_,aaP _,rfl,rfl,wD (rows:=[]) (c:=2) (by decide) (λr hr=>by cases hr) rfl (s0.push _)⟩ ?_;rintro m vs h' ⟨i,r,hi,rfl,rfl,s⟩;have rn:=xf s;unfold sF;by_cases hc:(i:Int)<(gl.length:Int)
 ·obtain⟨g,hgi⟩:∃g,gl[i]? = some g:=⟨_,aag (by omega)⟩;have gb:=hg g (aaz hgi);have et:gl.take (i+1)=gl.take i++[g]:=by rw[abd,hgi];rfl
  have eb:=bP (gl.take i) 16777216 λx hx=>hg x (abp hx);rw[aaM,abV hi]at eb;have hl:(vh (gl.take i) 16777216).length=i:=by rw[Up,aaM,abV hi]
  obtain⟨b2,c2,h2,e1,s2⟩:=Ue s (Vx (gl.take i) 16777216) (by omega);obtain⟨b,o,c,t,a1,a2,a3,a4⟩:=ZO (R.at s2) hgi;have w1:IntKind.wrap .i64 (g+16)=g+16:=Go.Mem.OV (by omega) (by omega);have w3:g+16+15=g+31:=by omega
  have w4:=DN gb.1 gb.2 (show 0<=Vx (gl.take i) 16777216 by omega) (by omega);have hin:=inc (show i<4611686018427387904 by omega);simp only[EE,nth,↓zq,Int.reduceEq,zu,zg,vm,sD,sE,gn,ln,hc,a1,a3,a4,rn,e1,w1,w3,w4,hin];refine⟨gl.length-(i+1),by omega,i+1,.slice (some ⟨b2,0,none⟩) ((vh (gl.take i) 16777216).length+1) c2,by omega,rfl,?_,?_⟩
  ·rw[et,(UT g (gl.take i) 16777216).2]
  ·rw[et,(UT g (gl.take i) 16777216).1];exact s2
 ·have e:i=gl.length:=by omega
  subst e;rw[abv]at s;simp only[EE,nth,gn,ln,hc,rn];exact s
end
open Go.Rm (yR cw)
section
variable {lo:yT}{h:za}{L:List HP}{y:aaa}{xs ys:List Int}
theorem zdN{b n c c2 o m:Nat}(s:Sat lo h (vu (.slice (some ⟨b,0,none⟩) n c) xs::L))(ho:o+4=xs.length)(hm:m=4)(S:y4 h y ys)(hy:ys.length=4) :
  ∃h',(∀r,zB Tryz.prog .copy [29,29] r [.slice (some ⟨b,o,none⟩) m c2,y] h=some (.int .i64 4,h'))/\Sat lo h' (vu (.slice (some ⟨b,0,none⟩) n c) (xs.take o++ys)::L)/\(vQ h->vQ h'):=by
 subst hm;obtain⟨hn,hf⟩:=vW S;rw[hy]at hn hf;rcases yR s with⟨e,_,_⟩|⟨b',c',cs,e,hc,hl,ht,s'⟩
 ·cases e
 ·simp only[ab8,aab,ace]at e;obtain⟨⟨rfl,_⟩,e2,rfl⟩:=e;rw[aau]at e2 hl ht;subst e2
  have ht2:cs.take xs.length=xs.map λz=>Value.int .u8 z:=by
   have:=ht;rw[abR,Xt]at this;exact this
  have hl2:xs.length<=cs.length:=by omega
  have ln:(ys.map λz=>Value.int .u8 z).length=4:=by rw[aau,hy]
  refine⟨h.set b (some (.cells (zp cs o (ys.map λz=>Value.int .u8 z)) 5)),λr=>?_,?_,λw=>Go.Rtl.wf_set w s'.lt _⟩
  ·show Ad Tryz.prog 29 _ y h=_;unfold Ad;have h1:z9 Tryz.prog (underlying 29)=some (.slice 5):=by kernel_rfl
   have h2:(z9 Tryz.prog (typeInfo 5)).map (λi=>i.size)=some 1:=by kernel_rfl
   cases h3:z9 Tryz.prog (typeInfo 5) with
   |none=>rw[h3]at h2;cases h2
   |some i=>
    rw[h3]at h2;have h2:i.size=1:=abl h2;rw[h1];simp only[hn,h3,h2,Nat.min_self,hf];unfold JC;rw[ln];have e1:Nat.beq 4 0=false:=rfl
    have e2:(Nat.ble h.ro b&&Nat.ble (o+4) cs.length&&(ys.map λz=>Value.int .u8 z).all wG)=true:=by
     rw[DB,Nat.ble_eq_true_of_le s'.wr,Nat.ble_eq_true_of_le (by omega:o+4<=cs.length)];rfl
    simp only[e1,aaw,s'.get,e2,aav,abw];rfl
  ·have hlen:(zp cs o (ys.map λz=>Value.int .u8 z)).length=cs.length:=wh _ _ _;have hl3:(xs.take o++ys).length=xs.length:=by rw[aao,aaM,hy];omega
   have q:=cw (ty:=5) (n:=1) (rows:=(xs.take o++ys).map xO) (c:=c) hc (by rw[aau,hl3,hlen];omega) (by
    rw[aau,hl3,abR,Xt];refine abL λj=>?_;by_cases hj:j<xs.length
    ·rw[aaV hj,Go.Mem.Ib _ _ _ _ (by rw[ln];omega),ln];by_cases hq:o<=j/\j<o+4
     ·rw[aai hq,abo,aa8 (by rw[aau,aaM];omega)];rw[aau,aaM,abV (by omega)]
     ·rw[aaf hq,abo,aba (by rw[aau,aaM];omega),<- aaV (l:=cs) hj,ht2,List.map_take,aaV (by omega)]
    ·rw[aat (by rw[aaM];omega),aat (by rw[aau,hl3];omega)]) (s'.set (.cells (zp cs o (ys.map λz=>Value.int .u8 z)) 5))
   rw[aau,hl3]at q;exact q
theorem KQ{b off:Nat}{cs vs:List aaa}{t:TypeId}{K:za->Prop}(s:Sat lo h (pt b (.cells cs t)::L))(wf:vQ h)(hl:off+vs.length<=cs.length)(hc:vs.all wG=true)(k:∀h',vQ h'->Sat lo h' (pt b (.cells (zp cs off vs) t)::L)->K h'):opt (Eo h b off vs) K:=by
 rw[zaQ s.get,aai ⟨hl,s.wr,hc⟩];exact k _ (Go.Rtl.wf_set wf s.lt _) (s.set _)
theorem zdc{q:Nat}{o:vr}(s:Sat lo h (pt q o::L)):∃lo1,lo.Le lo1/\Rd lo1 (λh=>h.get q=some o)/\Sat lo1 h L:=by
 obtain⟨a,ha,d,w,s⟩:=s;refine⟨lo.un a,yT.po d,λh1 b1=>?_,s⟩;have:Sat lo h1 [pt q o]:=⟨a,ha,d,w,b1⟩;exact this.get
end
theorem mkm(h:za):qg h=(.map (some h.next),h.push (.map [] 0)):=rfl
def dQ(ls:List Nat)(n:Nat):List aaa:=(ls.map λq=>Value.map (some q))++List.replicate (n-ls.length) (.map none)
theorem PY(n:Nat):Yx [.map none] n=dQ [] n:=by
 unfold Yx dQ;rw[acw,abA];apply abL;intro i;by_cases h:i<n
 ·simp[h,Nat.mod_one]
 ·rw[aat (by simp;omega),aat (by simp;omega)]
theorem TG{ls:List Nat}{n:Nat}(h:ls.length<=n):(dQ ls n).length=n:=by unfold dQ;simp;omega
theorem PX{ls:List Nat}{n q:Nat}(h:ls.length<n):(dQ ls n).set ls.length (.map (some q))=dQ (ls++[q]) n:=by
 unfold dQ;rw[List.set_append_right _ _ (by simp),aau,Nat.sub_self,abo,aa1]
 congr 1
 obtain⟨k,hk⟩:∃k,n-ls.length=k+1:=⟨n-ls.length-1,by omega⟩;rw[hk,aao,List.length_singleton,show n-(ls.length+1)=k by omega,List.replicate_succ];rfl
theorem Ol{ls:List Nat}{n k q:Nat}(h:ls[k]? = some q):(dQ ls n)[k]? = some (.map (some q)):=by
 unfold dQ;rw[aba (by rw[aau];exact(aaZ.1 h).1),aaH,h];rfl
open Go.As (Pg W8 kR uD VU vw jO)
section
variable {lo:yT}{h:za}{L:List HP}{f:Go.As.Fn}{q bl N c n st:Nat}{cs:List aaa}{v0 v1:aaa}{J:List aaa->za->Prop}
theorem zX{h:za}{y:aaa}{ys:List Int}(S:y4 h y ys)(r:TypeId)(h':za):zB Tryz.prog .len [29] r [y] h'=some (.int .i64 ys.length,h'):=by
 have:=(vW S).1;rcases S with⟨rfl,e⟩|⟨b,off,cp,rfl,_⟩
 ·have:ys=[]:=by simpa using e
  subst this;rfl
 ·rw[aau]at *
  rfl
theorem zd0(hF:Rd lo (W8 · f))(hY:∀x,x∈f.code->lK x)(hcs:cs[n]? = some (.map (some q)))(hn:n<N)(hst:st<=1000000)(hsz:vi f.code<=1000000)(hfl:f.code.length<=1000000)
  (s:Sat lo h (pt q (JN [])::pt bl (.cells cs 65)::L)) (k:∀h',Sat lo h' (pt q (JN (bV f.code st []))::pt bl (.cells cs 65)::L)->J [.int .i64 ((st+vi f.code:Nat):Int)] h') :
  LP (fA (.int .i64 f.code.length) J f.cv (.slice (some ⟨bl,0,none⟩) N c) [v0,v1,.int .i64 n]) [.int .i64 st,.int .i64 0] h:=by
 refine qo (λm vs h'=>∃j:Nat,j<=f.code.length/\m=f.code.length-j/\vs=[.int .i64 ((st+vi (f.code.take j):Nat):Int),.int .i64 (j:Nat)]/\Sat lo h' (pt q (JN (bV (f.code.take j) st []))::pt bl (.cells cs 65)::L)) f.code.length ⟨0,aaP _,rfl,rfl,s⟩ ?_;rintro m vs h1 ⟨j,hj,rfl,rfl,s1⟩;have F:=hF.at s1;unfold fA;by_cases hc:(j:Int)<(f.code.length:Int)
 ·obtain⟨i,hi⟩:∃i,f.code[j]? = some i:=⟨_,aag (by omega)⟩;obtain⟨bi,oi,ci,ti,ha,hbi,hgi,hle,htk,_⟩:=uD F.code (i:=j) (r:=i.row) (by rw[aaH,hi];rfl) rfl;have et:f.code.take (j+1)=f.code.take j++[i]:=by rw[abd,hi];rfl
  have hsn:=DT i (f.code.take j) st [];rw[<- et]at hsn;have hss:=MN (f.code.take j) i;rw[<- et]at hss
  have hmono:vi (f.code.take (j+1))<=vi f.code:=by
   have:=dH (f.code.take (j+1)) (f.code.drop (j+1));rw[abn]at this;omega
  have hin:=inc (show j<4611686018427387904 by omega);have gL:=(s1.p 1).get;have n0:0<=(n:Int)/\(n:Int)<(N:Int):=by omega
  simp only[EE,nth,Value.cells,↓zq,qQ,wK,uw,su,hc,ha,hgi,hle,htk];refine qc s1 λb8 h2 s2=>?_;simp only[EE,Nat.reduceAdd,yI];refine yf s2 (by simp) rfl λh3 s3=>?_;have g8:=s3.get;have gM:=(s3.p 1).get;have gL3:=(s3.p 2).get
  have fin:∀{h5:za} {L':List HP},Sat lo h5 (pt b8 (.cells i.row 42)::pt q (JN (bV (f.code.take (j+1)) st []))::pt bl (.cells cs 65)::L) ->
    zF Tryz.prog (.func (.func 24) #[] #[]) [i.val] h5 (fw [.int .i64 ((st+vi (f.code.take j):Nat):Int),.int .i64 (j:Nat)] (fy [.int .i64 ((st+vi (f.code.take j):Nat):Int),.int .i64 (j:Nat)] λvs' h'=>∃m,m<f.code.length-j /\ ∃j:Nat,j<=f.code.length/\m=f.code.length-j/\vs'=[.int .i64 ((st+vi (f.code.take j):Nat):Int),.int .i64 (j:Nat)]/\Sat lo h' (pt q (JN (bV (f.code.take j) st []))::pt bl (.cells cs 65)::L))):=λ{h5 L'} s5=>by
   refine Kd (zda (hY i (aaz hi))) ?_;rintro v h6 s6;have s7:=s5.join s6;have vn:=y9 s6;have lv:=λh'=>zX (yw s6 aak) 3 h';have sz:(ze i 0).length=qJ i:=rfl;rw[sz]at lv
   have hadd:IntKind.wrap .i64 (((st+vi (f.code.take j):Nat):Int)+(qJ i:Int))=((st+vi (f.code.take (j+1)):Nat):Int):=by
    rw[hss,Go.Mem.OV (by omega) (by omega)];push_cast;omega
   simp only[EE,nth,fw,fy,vn,lv,hadd,hin];refine⟨f.code.length-(j+1),by omega,j+1,by omega,rfl,rfl,?_⟩;exact s7.drop.drop
  by_cases h20:i.op=20
  ·rw[aai h20]at hsn;have up:=I8 (P:=Tryz.prog) (t:=65) (kt:=3) (et:=3) (kind := .i64) (by kernel_rfl) (by kernel_rfl) gM (s3.p 1).wr i.l (.int .i64 ((st+vi (f.code.take j):Nat):Int));have s4:=(s3.p 1).set (JN (Qb (bV (f.code.take j) st []) i.l (.int .i64 ((st+vi (f.code.take j):Nat):Int))));have g84:=(s4.p 1).get;have hd:decide (i.op=20)=true:=aa0 h20;simp only[EE,nth,zp,Nat.reduceAdd,qQ,zu,zg,wK,VS,zc,xK,Vz,sr,g8,hd,n0,aa6,abR,gL3,hcs,up,g84];refine fin (L':=L) ?_;rw[hsn];exact s4.f [1,0]
  ·rw[aaf h20]at hsn;simp only[EE,zp,Nat.reduceAdd,qQ,zu,zg,wK,zc,g8,h20];refine fin (L':=L) ?_;rw[hsn];exact s3
 ·have e:j=f.code.length:=by omega
  subst e;rw[abv]at s1 ⊢;simp only[EE,nth,hc];exact k h1 s1
end
open Go.Rm (Rd.mono)
section
variable {lo:yT}{h:za}{L:List HP}{p:Pg}{b2 b4 bl c:Nat}{gv v0:aaa}{zs:List Int}{J:List aaa->za->Prop}{R:aaa->za->Prop}
abbrev pH(p:Pg)(cv sv gv:aaa):vr := .cells [cv,sv,gv,.int .i64 p.main,.int .i64 p.params] 31
def RO(p:Pg)(ls:List Nat)(h:za):Prop := ∀(k q:Nat) (f:Go.As.Fn),ls[k]? = some q->p.funcs[k]? = some f->h.get q=some (JN (bV f.code (wx (p.funcs.take k)) []))
theorem ng:∀fs gs:List Go.As.Fn,wx (fs++gs)=wx fs+wx gs
 |[],gs=>by rw[abA];show _=0+_;omega
 |f::fs,gs=>by
  show vi f.code+wx (fs++gs)=vi f.code+wx fs+wx gs;rw[ng fs gs];omega
theorem U5(fs:List Go.As.Fn)(i:Nat):wx (fs.take i)<=wx fs:=by
 have:=ng (fs.take i) (fs.drop i);rw[abn]at this;omega
theorem za1(s:Sat lo h (ZG 3 1 gv (zs.map zV)::L))(z:Int)(Ui:zs.length<=1000000) :
  ∃b c h',(∀r,zB Tryz.prog .append [22,22] r [gv,.slice (some ⟨h.next,0,none⟩) 1 3] (h.push (.cells [.int .i64 z] 3))=some (.slice (some ⟨b,0,none⟩) (zs.length+1) c,h'))/\Sat lo h' (ZG 3 1 (.slice (some ⟨b,0,none⟩) (zs.length+1) c) ((zs++[z]).map zV)::L):=by
 have s1:=s.push (.cells [.int .i64 z] 3);obtain⟨b',c',h',a1,s2⟩:=W7 (s1.p 1) (pY zs) [.int .i64 z] rfl (by decide) 8 (by rw[aau];omega);rw[aau]at a1 s2;refine⟨b',c',h',λr=>?_,?_⟩
 ·rw[UH r _ _ 1 [.int .i64 z] _ rfl (by simp only[kh,wt];rfl) rfl rfl];exact a1
 ·rw[abo];exact(s2.p 1).drop
def YY(fs:List Go.As.Fn):List Int:=(qG fs 0).map λ(n:Nat)=>(n:Int)
theorem gF(fs:List Go.As.Fn):(YY fs).length=fs.length:=by unfold YY;rw[aau,BU]
theorem I4(fs:List Go.As.Fn)(f:Go.As.Fn):YY (fs++[f])=YY fs++[((wx fs:Nat):Int)]:=by
 unfold YY;rw[pA,abo,abt];rfl
theorem zaO(hp:Rd lo (kR · p))(hY:∀f,f∈p.funcs->∀x,x∈f.code->lK x)(hsz:wx p.funcs<=1000000)(hcf:∀f,f∈p.funcs->f.code.length<=1000000)(hfl:p.funcs.length<=100)
  (s:Sat lo h (pt bl (.cells (dQ [] p.funcs.length) 65)::ZG 3 1 (.slice none 0 0) ([].map zV)::pt b4 (pH p (.slice none 0 0) (.slice none 0 0) gv)::L)) (gn:zS gv=false)
  (k:∀h' lo1 ls sv,lo.Le lo1->ls.length=p.funcs.length->Rd lo1 (RO p ls)->Sat lo1 h' (pt bl (.cells (dQ ls p.funcs.length) 65)::ZG 3 1 sv ((YY p.funcs).map zV)::pt b4 (pH p (.slice none 0 0) sv gv)::L)->J [v0] h') :
  LP (aH (.int .i64 p.funcs.length) J p.fv (.pointer (some ⟨b4,0,none⟩)) (.slice (some ⟨bl,0,none⟩) p.funcs.length c) (.pointer (some ⟨b2,0,none⟩)) R) [v0,.int .i64 0,.int .i64 0] h:=by
 refine qo (λm vs h'=>∃(i:Nat) (lo1:yT) (ls:List Nat) (sv:aaa),i<=p.funcs.length/\m=p.funcs.length-i/\vs=[v0,.int .i64 ((wx (p.funcs.take i):Nat):Int),.int .i64 (i:Nat)]/\ls.length=i/\lo.Le lo1/\Rd lo1 (RO p ls)/\Sat lo1 h' (pt bl (.cells (dQ ls p.funcs.length) 65)::ZG 3 1 sv ((YY (p.funcs.take i)).map zV)::pt b4 (pH p (.slice none 0 0) sv gv)::L)) p.funcs.length
  ⟨0,lo,[],.slice none 0 0,aaP _,rfl,rfl,rfl,yT.Le.refl _,λh b k q f h1=>(by cases h1),s⟩ ?_
 rintro m vs h1 ⟨i,lo1,ls,sv,hi,rfl,rfl,hls,hle1,hR,s1⟩;unfold aH;by_cases hc:(i:Int)<(p.funcs.length:Int)
 ·obtain⟨f,hf⟩:∃f,p.funcs[i]? = some f:=⟨_,aag (by omega)⟩;have P:=(hp.mono hle1).at s1;have fm:=aaz hf;obtain⟨bf,ofs,cf,tf,hif,hbf,hgf,hlf,htf,hkf⟩:=VU P.funcs (i:=i) (r:=f.row) (by rw[aaH,hf];rfl) rfl;have hF:Rd lo1 (W8 · f):=λh b=>(hp.mono hle1 h b).fns f fm;have cvn:=(P.fns f fm).code.ai;have cvc:=(P.fns f fm).code.N0;have hin:=inc (show i<4611686018427387904 by omega);have et:p.funcs.take (i+1)=p.funcs.take i++[f]:=by rw[abd,hf];rfl
  have hss:=BT f (p.funcs.take i);rw[<- et]at hss;have hmono:=U5 p.funcs (i+1);have svn:=xf (s1.p 1);simp only[EE,nth,Value.cells,↓zq,qQ,ZR,Vu,sy,hc,hif,hgf,hlf,htf];refine qc s1 λb8 h2 s2=>?_;simp only[EE,Nat.reduceAdd,Vt];refine yf s2 (by simp) (by simp[cvc];rfl) λh3 s3=>?_;have g4:=(s3.p 3).get;have svc:=vq (s3.p 2);obtain⟨b5,c5,h5,e5,s5⟩:=za1 (s3.p 2) ((wx (p.funcs.take i):Nat):Int) (by rw[gF,aaM];omega);rw[<- I4,<- et]at s5;simp only[EE,nth,zu,ua,QA,qX,ji,g4,svn,e5];refine yf (s5.p 3) (by simp) rfl λh6 s6=>?_;have gl:=(s6.p 3).get;have wl:=(s6.p 3).wr;have ll:=(s6.p 3).lt;have n0:0<=(i:Int)/\(i:Int)<(p.funcs.length:Int):=by omega
  have g8:=(s6.p 2).get;have s7:=s6.push (.map [] 0);simp only[EE,nth,QC,Vz,n0,aa6,abR,mkm];refine yf (s7.p 4) (by rw[TG (by omega)];simp;omega) rfl λh8 s8=>?_
  have es:zp (dQ ls p.funcs.length) i [.map (some h6.next)]=dQ (ls++[h6.next]) p.funcs.length:=by
   rw[<- hls,<- PX (by omega)];rfl
  rw[es]at s8;have g8:=(s8.p 4).get;have hlc:=λh'=>vw ((hF.at s8).code) 3 h';simp only[EE,nth,↓zq,zp,zu,Zk,um,g8,cvn,hlc];refine zd0 (q:=h6.next) (st:=wx (p.funcs.take i)) hF (hY f fm) (Ol (by rw[aa8 (by omega)];simp[hls])) (by omega) (by have:=U5 p.funcs i;omega) (by omega) (hcf f fm) (s8.f [1,0]) λh9 s9=>?_;obtain⟨lo2,l2,hm,s10⟩:=zdc s9;have hgt:¬((wx (p.funcs.take i)+vi f.code:Nat):Int)>8388608:=by omega
  simp only[EE,nth,sw,hgt];simp only[EE,nth,nZ,hin];refine⟨p.funcs.length-(i+1),by omega,i+1,lo2,ls++[h6.next],.slice (some ⟨b5,0,none⟩) ((YY (p.funcs.take i)).length+1) c5,by omega,rfl,by rw[hss],by simp[hls],hle1.trans l2,λh b k q f' hk hf'=>?_,?_⟩
  ·by_cases hki:k<ls.length
   ·rw[aba hki]at hk;exact hR.mono l2 h b k q f' hk hf'
   ·have hk2:k=ls.length:=by
     have:=(aaZ.1 hk).1;simp at this;omega
    subst hk2;simp at hk;subst hk;rw[hls,hf]at hf';cases hf';rw[hls];exact hm h b
  ·exact(s10.f [3]).drop.f [0,2,1]
 ·have e:i=p.funcs.length:=by omega
  subst e;rw[abv]at s1;simp only[EE,nth,hc];exact k h1 lo1 ls sv hle1 hls hR s1
end
open Go.As (Zl)
open Go.Ar (wE YV Yr)
structure InX (p:Pg) (code:List zC) (x:zC):Prop where
 lay:lK x
 lab:x.op=18\/x.op=19->¬wE code x.l 0<0
 call:x.op=21->0<=x.sub/\x.sub<p.funcs.length
 Bk:x.op=6->0<=x.sub/\x.sub<p.globals.length/\0<=x.k/\x.k<=65536
structure PgX (p:Pg):Prop where
 ins:∀f,f∈p.funcs->∀x,x∈f.code->InX p f.code x
 once:∀f,f∈p.funcs->∀(j:Nat) y,f.code[j]? = some y->y.op=20->wE f.code y.l 0=(j:Int)
 cf:∀f,f∈p.funcs->f.code.length<=100000
 fl:p.funcs.length<=100
 gl:p.globals.length<=200
 gr:∀g,g∈p.globals->0<=g/\g<=65536
theorem MD{p:Pg}(h:Zl p=true):PgX p:=by
 have hd:YV p=true:=by rw[Yr];exact h
 have hl:=λf fm=>zby h (f:=f) fm;unfold YV at hd;simp only[aad,aaB]at hd;obtain⟨h1,h2,h3⟩:=hd;unfold Go.As.ka at h1;simp only[aad,aaq,aan]at h1
 have gr:∀g,g∈p.globals->0<=g/\g<=65536:=λg hg=>by
  have:=h2 g hg;unfold Go.As.Fb at this;simp only[aad,aaq,aan]at this;omega
 refine⟨λf fm x hx=>?_,λf fm=>(hl f fm).1,λf fm=>?_,by omega,by omega,gr⟩
 ·have a:=h3 f fm;unfold Go.Ar.dO at a;simp only[aad]at a;have a1:=a.1;unfold Go.Ar.bE at a1;rw[aaB]at a1;obtain⟨n,hn⟩:=ab9 hx;have hn':=(aaZ.1 hn).1;have b:=a1 n (by simpa using hn');unfold Go.Ar.PU at b;rw[hn]at b;have b:Go.Ar.vy p f.code n x=true:=b;unfold Go.Ar.vy Go.Ar.YW at b;simp only[aad,aaq]at b;obtain⟨b1,b2,b3,b4⟩:=b;refine⟨dz b1,(hl f fm).2 x hx,λe=>?_,λe=>?_⟩
  ·rw[aa0 e,abu,abc,aan,aan]at b3;omega
  ·rw[aa0 e,abu]at b4;simp only[abc,aan]at b4;obtain⟨c1,c2,c3,c4⟩:=b4;have hlt:x.sub.toNat<p.globals.length:=by omega
   have:=gr _ (List.getElem_mem hlt);rw[abe,aag hlt,abZ]at c4;exact⟨by omega,by omega,by omega,by omega⟩
 ·have a:=h3 f fm;unfold Go.Ar.dO at a;simp only[aad,aaq,aan]at a;omega
theorem QD{h:za}{sv:aaa}{zs:List Int}(S:zE h sv 1 (zs.map zV)){i:Nat}{z:Int}(hz:zs[i]? = some z):∃b o c t,vf Tryz.prog 67 sv (.int .i64 i)=some (.pointer (some ⟨b,o,none⟩))/\b<h.next/\h.get b=some (.cells c t)/\c[o]? = some (.int .i64 z):=by
 obtain⟨b,o,c,t,⟨off,cp,e1,e2⟩,hi,hb,hg,_,_,hk⟩:=S.spot (i:=i) (r:=zV z) (by rw[aaH,hz];rfl) rfl;refine⟨b,o,c,t,?_,hb,hg,by have:=hk 0 (by decide);exact this⟩;rw[e1,QR,aai (by omega),e2,aa6]
theorem LJ{h:za}{sv:aaa}{zs:List Int}(S:zE h sv 1 (zs.map zV)){i:Nat}{z:Int}(hz:zs[i]? = some z):∃b o c t,vf Tryz.prog 22 sv (.int .i64 i)=some (.pointer (some ⟨b,o,none⟩))/\b<h.next/\h.get b=some (.cells c t)/\c[o]? = some (.int .i64 z):=by
 obtain⟨b,o,c,t,⟨off,cp,e1,e2⟩,hi,hb,hg,_,_,hk⟩:=S.spot (i:=i) (r:=zV z) (by rw[aaH,hz];rfl) rfl;refine⟨b,o,c,t,?_,hb,hg,by have:=hk 0 (by decide);exact this⟩;rw[e1,Wv,aai (by omega),e2,aa6]
theorem I5{p:Pg}{i:Int}(h0:0<=i)(h1:i<p.funcs.length):(YY p.funcs)[i.toNat]? = some (((qG p.funcs 0)[i.toNat]?.getD 0:Nat):Int)/\(qG p.funcs 0)[i.toNat]?.getD 0<=wx p.funcs:=by
 have hl:=Em p.funcs 0 i.toNat (by omega);have:=U5 p.funcs i.toNat;unfold YY;rw[aaH,hl];refine⟨rfl,?_⟩;rw[abZ];omega
theorem Oc{p:Pg}(X:PgX p){i:Int}(h0:0<=i)(h1:i<p.globals.length):(vh p.globals 16777216)[i.toNat]? = some ((vh p.globals 16777216)[i.toNat]?.getD 0)/\16777216<=(vh p.globals 16777216)[i.toNat]?.getD 0/\(vh p.globals 16777216)[i.toNat]?.getD 0<=100000000:=by
 have hl:=AY p.globals 16777216 i.toNat (by omega);have:=bP (p.globals.take i.toNat) 16777216 λg hg=>X.gr g (abp hg);have h2:(p.globals.take i.toNat).length<=200:=by rw[aaM];have:=X.gl;omega
 rw[hl,abZ];exact⟨rfl,by omega,by omega⟩
theorem BS(xs:List zC)(j:Nat):vi (xs.take j)<=vi xs:=by
 have:=dH (xs.take j) (xs.drop j);rw[abn]at this;omega
theorem Ej{fs:List Go.As.Fn}{f:Go.As.Fn}(h:f∈fs):vi f.code<=wx fs:=by
 obtain⟨a,b,rfl⟩:=aaT h;rw[ng];show _<=wx a+(vi f.code+wx b);omega
open Go.Rm (y6)
section
variable {lo:yT}{h:za}{L:List HP}{p:Pg}{b4 bl b8 c n o i:Nat}{gv sv av cv:aaa}{ls:List Nat}{f:Go.As.Fn}{x:zC}{J:List aaa->za->Prop}{J0:List aaa->za->Prop}
structure FX (p:Pg) (bl:Nat) (ls:List Nat) (sv av:aaa) (h:za):Prop where
 pg:kR h p
 zgO:RO p ls h
 cells:h.get bl=some (.cells (dQ ls p.funcs.length) 65)
 zeG:zE h sv 1 ((YY p.funcs).map zV)
 Fv:zE h av 1 ((vh p.globals 16777216).map zV)
theorem cB{P:Program}{g:FuncId}{args:List aaa}{h:za}{R:aaa->za->Prop}(d:DC P g args h R):DC P g args h (λv h1=>R v h1/\vQ h1):=d.zfU λv h1 r w=>⟨r,w⟩
theorem Bm{q:Nat}{m:List (Int×aaa)}{l z:Int}(g:h.get q=some (JN m))(hz:KE m l=some (.int .i64 z)):Wg Tryz.prog 65 (.map (some q)) (.int .i64 l) false h=some (.int .i64 z):=by
 have:=Ir (P:=Tryz.prog) (t:=65) (kt:=3) (et:=3) (kind := .i64) (z := .int .i64 0) (by kernel_rfl) (by kernel_rfl) (by kernel_rfl) g l false;rw[hz]at this;exact this
theorem Mh(K:FX p bl ls sv av h)(X:PgX p)(hfi:p.funcs[i]? = some f)(hls:ls.length=p.funcs.length)(hx:x∈f.code)(hsz:wx p.funcs<=1000000)(g4:h.get b4=some (pH p cv sv gv))(g8:h.get b8=some (.cells x.row 42))
  (near:¬KD x->J0 [] h) (far:KD x->J [.int .i64 (pe (vh p.globals 16777216) (qG p.funcs 0) f.code (wx (p.funcs.take i)) x)] h) :
  aK (.int .i64 x.op) h (.slice (some ⟨bl,0,none⟩) p.funcs.length c) [.int .i64 i] (.pointer (some ⟨b8,0,none⟩)) (.pointer (some ⟨b4,0,none⟩)) av J0 J:=by
 have fm:=aaz hfi;have hi:=(aaZ.1 hfi).1;have IX:=X.ins f fm x hx;have n0:0<=(i:Int)/\(i:Int)<(p.funcs.length:Int):=by omega
 obtain⟨q,hq⟩:∃q,ls[i]? = some q:=⟨_,aag (by omega)⟩;have hcs:=Ol (n:=p.funcs.length) hq;have gM:=K.zgO i q f hq hfi;have gL:=K.cells;have yy:=IX.lay.op;unfold KD at near far;unfold pe at far;unfold aK;by_cases h18:x.op=18
 ·have hd:decide (x.op=18)=true:=aa0 h18;have lk:=Bm gM (DU (X.once f fm) (IX.lab (.inl h18)) (wx (p.funcs.take i)) []);rw[aai (.inl h18)]at far;simp only[EE,nth,zu,zg,VS,xK,Vz,aJ,hd,n0,aa6,abR,gL,hcs,g8,lk];exact far (.inl h18)
 have hd18:decide (x.op=18)=false:=aaY h18;by_cases h19:x.op=19
 ·have hd:decide (x.op=19)=true:=aa0 h19;have lk:=Bm gM (DU (X.once f fm) (IX.lab (.inr h19)) (wx (p.funcs.take i)) []);rw[aai (.inr h19)]at far;simp only[EE,nth,zu,zg,VS,xK,Vz,aJ,hd18,hd,n0,aa6,abR,gL,hcs,g8,lk];exact far (.inr (.inl h19))
 have hd19:decide (x.op=19)=false:=aaY h19;rw[aaf (by omega)]at far;by_cases h21:x.op=21
 ·have hd:decide (x.op=21)=true:=aa0 h21;have cl:=IX.call h21;have sa:=(I5 cl.1 cl.2).1;obtain⟨b,o,c3,t,a1,a2,a3,a4⟩:=LJ K.zeG sa;rw[acd cl.1]at a1;rw[aai h21]at far;simp only[EE,nth,zu,ua,zg,ji,zn,oa,Qf,hd18,hd19,hd,g4,g8,a1,a3,a4];exact far (.inr (.inr (.inl h21)))
 have hd21:decide (x.op=21)=false:=aaY h21;rw[aaf h21]at far;by_cases h6:x.op=6
 ·have hd:decide (x.op=6)=true:=aa0 h6;have lg:=IX.Bk h6;have sa:=Oc X lg.1 lg.2.1;obtain⟨b,o,c3,t,a1,a2,a3,a4⟩:=QD K.Fv sa.1;rw[acd lg.1]at a1;rw[aai h6]at far;have w:=Go.Mem.OV (n:=(vh p.globals 16777216)[x.sub.toNat]?.getD 0+x.k) (by omega) (by omega);simp only[EE,nth,zu,yU,zg,zn,zw,n7,aI,Qf,hd18,hd19,hd21,hd,g8,a1,a3,a4,w];exact far (.inr (.inr (.inr h6)))
 have hd6:decide (x.op=6)=false:=aaY h6;simp only[EE,nth,aI,Qf,hd18,hd19,hd21,hd6];exact near (by omega)
theorem zbq(X:PgX p)(hfi:p.funcs[i]? = some f)(hx:x∈f.code)(hsz:wx p.funcs<=1000000)(hf:KD x):0<=pe (vh p.globals 16777216) (qG p.funcs 0) f.code (wx (p.funcs.take i)) x/\pe (vh p.globals 16777216) (qG p.funcs 0) f.code (wx (p.funcs.take i)) x<=200000000:=by
 have fm:=aaz hfi;have IX:=X.ins f fm x hx;unfold KD at hf;unfold pe;by_cases h1:x.op=18\/x.op=19
 ·rw[aai h1];have:=U5 p.funcs i;have:=BS f.code (wE f.code x.l 0).toNat;have:=Ej fm;omega
 ·rw[aaf h1];by_cases h21:x.op=21
  ·rw[aai h21];have cl:=IX.call h21;have:=(I5 cl.1 cl.2).2;omega
  ·have h6:x.op=6:=by omega
   rw[aaf h21,aai h6];have lg:=IX.Bk h6;have sa:=Oc X lg.1 lg.2.1;omega
theorem TA(hK:Rd lo (FX p bl ls sv av))(X:PgX p)(hfi:p.funcs[i]? = some f)(hls:ls.length=p.funcs.length)(hx:x∈f.code)(hsz:wx p.funcs<=1000000){bs:List Int}(hbs:bs.length=wx (p.funcs.take i)+n)(hn:n<=1000000)(wf:vQ h)
  (s:Sat lo h (pt b8 (.cells x.row 42)::pt b4 (pH p cv sv gv)::vu cv bs::L)) (cvc:zS gv=false)
  (k:∀h' cv',vQ h'->Sat lo h' (pt b4 (pH p cv' sv gv)::vu cv' (bs++ze x (L4 (vh p.globals 16777216) (qG p.funcs 0) f.code (wx (p.funcs.take i)) (wx (p.funcs.take i)+n) x))::L)->J0 [] h') :
  zF Tryz.prog (.func (.func 24) #[] #[]) [x.val] h (aL (.pointer (some ⟨b4,0,none⟩)) (.pointer (some ⟨b8,0,none⟩)) (.slice (some ⟨bl,0,none⟩) p.funcs.length c) [.int .i64 i] av J0):=by
 have fm:=aaz hfi;have IX:=X.ins f fm x hx;refine Kd (cB (zda IX.lay)) ?_;rintro v h1 ⟨s1,w1⟩;have s2:=s.join s1;have sz:(ze x 0).length=qJ x:=rfl;have szl:=size_le x;have tk:=U5 p.funcs i;have g4:=(s2.p 2).get;obtain⟨a,m,c1,h2,a1,s3,w3,_⟩:=J8 ((s2.p 3)) (yw (s2.p 3) (aaC _ aak)) (by omega);have vn:=y9 s1;have cn:=y9 (s2.p 3);simp only[EE,zu,jI,QB,uA,aL,g4,vn,cn,a1];refine KQ (s3.p 3) (w3 w1) (by simp) (by rfl) λh3 w4 s4=>?_;have g43:=s4.get;have g83:=(s4.p 3).get;have ln:=λh'=>zX (yw (s4.p 1) aak) 3 h';rw[aao,sz,hbs]at ln;simp only[EE,↓zq,zp,zu,jI,zg,uA,zc,g43,g83,ln];refine Mh (cv := .slice a m c1) (f:=f) (hK.at s4) X hfi hls hx hsz g43 g83 (λnf=>?_) (λhf=>?_)
 ·refine k h3 (.slice a m c1) w4 ?_;rw[Aw nf];exact(s4.f [0,1,2,3]).f [2,3] |>.drop.drop
 ·obtain⟨f1,f2⟩:=Pz hf (L4 (vh p.globals 16777216) (qG p.funcs 0) f.code (wx (p.funcs.take i)) (wx (p.funcs.take i)+n) x);have gb:=zbq X hfi hx hsz hf;rw[f2]at k;have hlen:(bs++ze x 0).length=wx (p.funcs.take i)+n+qJ x:=by rw[aao,sz,hbs]
  have efar:L4 (vh p.globals 16777216) (qG p.funcs 0) f.code (wx (p.funcs.take i)) (wx (p.funcs.take i)+n) x=pe (vh p.globals 16777216) (qG p.funcs 0) f.code (wx (p.funcs.take i)) x-((wx (p.funcs.take i)+n+qJ x:Nat):Int):=by
   unfold L4;rw[aai (by unfold KD at hf;omega)]
  revert gb efar
  generalize pe (vh p.globals 16777216) (qG p.funcs 0) f.code (wx (p.funcs.take i)) x=gg;intro gb efar;rw[efar]at k;generalize hN:wx (p.funcs.take i)+n+qJ x=N at *
  rcases yR (s4.p 1) with⟨e,e2,_⟩|⟨b,c',cs,e,hc,hl,ht,_⟩
  ·have:(bs++ze x 0).length=0:=by
    have:=congrArg List.length e2;simpa using this
   omega
  ·have e':=e;simp only[ab8]at e;obtain⟨rfl,e3,rfl⟩:=e;rw[aau,hlen]at e3;subst e3;have wsub:IntKind.wrap .i64 ((m:Int)-4)=((m-4:Nat):Int):=by rw[Go.Mem.OV (by omega) (by omega)];omega
   have wg:=Go.Mem.OV (n:=gg-(m:Int)) (by omega) (by omega);have c0:(0:Int)<=((m-4:Nat):Int)/\((m-4:Nat):Int)<=(m:Int):=by omega
   unfold oc;simp only[EE,nth,zp,zu,jI,uA,qv,g43,wsub,c0,aa6,wg];refine i9 s4 w4 (n:=4) rfl (by decide) λr h5 w5 rn s5=>?_;obtain⟨h6,a6,s6,w6⟩:=zdN (o:=m-4) (m:=m-(m-4)) (c2:=(bif wide Tryz.prog h3 b 1 then UO c1 (m-4) else 0)) (s5.p 2) (by rw[hlen];omega) (by omega) (yw s5 aak) (xb 4 _)
   have e7:(bs++ze x 0).take (m-4)++yX 4 (gg-(m:Int))=bs++((ze x 0).take (qJ x-4)++yX 4 (gg-(m:Int))):=by
    rw[<- aa1]
    congr 1
    rw[List.take_append,abQ (by omega)]
    congr 2
    omega
   rw[e7]at s6;simp only[abR]at *
   simp only[EE,rn,a6];exact k h6 (.slice (some ⟨b,0,none⟩) m c1) (w6 w5) ((s6.f [1,3,4]).drop.drop.drop.f [1,0])
end
open Go.Rm (YX)
section
variable {lo:yT}{h:za}{L:List HP}{p:Pg}{b2 b4 bl b8 c n o i:Nat}{gv sv av cv:aaa}{ls:List Nat}{f:Go.As.Fn}{x:zC}{J:List aaa->za->Prop}{R:aaa->za->Prop}
theorem zdM(hK:Rd lo (FX p bl ls sv av))(X:PgX p)(hfi:p.funcs[i]? = some f)(hls:ls.length=p.funcs.length)(hsz:wx p.funcs<=1000000){bs:List Int}(hbs:bs.length=wx (p.funcs.take i))(wf:vQ h)
  (s:Sat lo h (pt b4 (pH p cv sv gv)::vu cv bs::L)) (gvn:zS gv=false)
  (k:∀h' cv',vQ h'->Sat lo h' (pt b4 (pH p cv' sv gv)::vu cv' (bs++Wk (vh p.globals 16777216) (qG p.funcs 0) f.code (wx (p.funcs.take i)) f.code (wx (p.funcs.take i)))::L)->J [] h') :
  LP (aM (.int .i64 f.code.length) J f.cv (.pointer (some ⟨b4,0,none⟩)) (.slice (some ⟨bl,0,none⟩) p.funcs.length c) [.int .i64 i] av) [.int .i64 0] h:=by
 refine qo (λm vs h'=>∃(j:Nat) (cv':aaa),j<=f.code.length/\m=f.code.length-j/\vs=[.int .i64 (j:Nat)]/\vQ h'/\Sat lo h' (pt b4 (pH p cv' sv gv)::vu cv' (bs++Wk (vh p.globals 16777216) (qG p.funcs 0) f.code (wx (p.funcs.take i)) (f.code.take j) (wx (p.funcs.take i)))::L)) f.code.length
  ⟨0,cv,aaP _,rfl,rfl,wf,by
   have e:bs++Wk (vh p.globals 16777216) (qG p.funcs 0) f.code (wx (p.funcs.take i)) (f.code.take 0) (wx (p.funcs.take i))=bs:=aa7 bs;rw[e];exact s⟩ ?_
 rintro m vs h1 ⟨j,cv',hj,rfl,rfl,w1,s1⟩;have K:=hK.at s1;have fm:=aaz hfi;have F:=K.pg.fns f fm;have hcf:=X.cf f fm;unfold aM;by_cases hc:(j:Int)<(f.code.length:Int)
 ·obtain⟨x,hi⟩:∃x,f.code[j]? = some x:=⟨_,aag (by omega)⟩;obtain⟨bi,oi,ci,ti,ha,hbi,hgi,hle,htk,_⟩:=uD F.code (i:=j) (r:=x.row) (by rw[aaH,hi];rfl) rfl;have et:f.code.take (j+1)=f.code.take j++[x]:=by rw[abd,hi];rfl
  have hin:=inc (show j<4611686018427387904 by omega);have szf:=Ej fm;have szt:=BS f.code j;simp only[EE,nth,Value.cells,↓zq,qQ,wK,uw,od,oe,hc,ha,hgi,hle,htk];refine By s1 w1 λb8 h2 w2 s2=>?_;simp only[EE,Nat.reduceAdd,yI];refine KQ s2 w2 (by simp) rfl λh3 w3 s3=>?_;have g8:=s3.get;simp only[EE,zp,Nat.reduceAdd,qQ,wK,g8];refine TA (n:=vi (f.code.take j)) hK X hfi hls (aaz hi) hsz (by rw[aao,hbs,mH]) (by omega) w3 s3 gvn λh4 cv2 w4 s4=>?_;simp only[EE,nth,hin];refine⟨f.code.length-(j+1),by omega,j+1,cv2,by omega,rfl,rfl,w4,?_⟩;rw[et,AB,<- aa1];exact s4
 ·have e:j=f.code.length:=by omega
  subst e;rw[abv]at s1;simp only[EE,nth,hc];exact k h1 cv' w1 s1
theorem zbo(hK:Rd lo (FX p bl ls sv av))(X:PgX p)(hls:ls.length=p.funcs.length)(hsz:wx p.funcs<=1000000)(wf:vQ h)
  (s:Sat lo h (pt b4 (pH p (.slice none 0 0) sv gv)::L)) (gvn:zS gv=false)
  (k:∀h' cv',Sat lo h' (pt b4 (pH p cv' sv gv)::vu cv' (gh p)::L)->J [] h') :
  LP (aN (.int .i64 p.funcs.length) J p.fv (.pointer (some ⟨b4,0,none⟩)) (.slice (some ⟨bl,0,none⟩) p.funcs.length c) av) [.int .i64 0] h:=by
 refine qo (λm vs h'=>∃(i:Nat) (cv':aaa),i<=p.funcs.length/\m=p.funcs.length-i/\vs=[.int .i64 (i:Nat)]/\vQ h'/\Sat lo h' (pt b4 (pH p cv' sv gv)::vu cv' (eK (vh p.globals 16777216) (qG p.funcs 0) (p.funcs.take i) 0)::L)) p.funcs.length
  ⟨0,.slice none 0 0,aaP _,rfl,rfl,wf,(E2 s).f [1,0]⟩ ?_
 rintro m vs h1 ⟨i,cv',hi,rfl,rfl,w1,s1⟩;have K:=hK.at s1;have fl:=X.fl;unfold aN;by_cases hc:(i:Int)<(p.funcs.length:Int)
 ·obtain⟨f,hf⟩:∃f,p.funcs[i]? = some f:=⟨_,aag (by omega)⟩;have fm:=aaz hf;obtain⟨bf,ofs,cf,tf,hif,hbf,hgf,hlf,htf,hkf⟩:=VU K.pg.funcs (i:=i) (r:=f.row) (by rw[aaH,hf];rfl) rfl;have cvn:=(K.pg.fns f fm).code.ai;have cvc:=(K.pg.fns f fm).code.N0;have hin:=inc (show i<4611686018427387904 by omega);have et:p.funcs.take (i+1)=p.funcs.take i++[f]:=by rw[abd,hf];rfl
  simp only[EE,nth,Value.cells,↓zq,qQ,ZR,Vu,og,oh,hc,hif,hgf,hlf,htf];refine By s1 w1 λb8 h2 w2 s2=>?_;simp only[EE,Nat.reduceAdd,Vt];refine KQ s2 w2 (by simp) (by simp[cvc];rfl) λh3 w3 s3=>?_;have g8:=s3.get;have hlc:=λh'=>vw ((hK.at s3).pg.fns f fm).code 3 h';simp only[EE,↓zq,zp,zu,Zk,um,g8,cvn,hlc];refine zdM (bs:=eK (vh p.globals 16777216) (qG p.funcs 0) (p.funcs.take i) 0) hK X hf hls hsz (mI _ _ _ _) w3 (s3.drop) gvn λh4 cv2 w4 s4=>?_;simp only[EE,nth,hin];refine⟨p.funcs.length-(i+1),by omega,i+1,cv2,by omega,rfl,rfl,w4,?_⟩;rw[et,AD,abt];exact s4
 ·have e:i=p.funcs.length:=by omega
  subst e;rw[abv]at s1;simp only[EE,nth,hc];exact k h1 cv' s1
end
end Go.Eb
namespace Go.Ac
open Go.Ai Go.Proofs
end Go.Ac
namespace Go.Ai
open Go.Ai Go.Proofs
end Go.Ai
namespace Go.Ar
open Go.Ai Go.Proofs
open Go.Rtl (zK zE Old inc vS FH cu lF I3)
open Go.Rm (Rd Rd.of Rd.at ZG y6 xH zV)
open Go.As (zC Pg W8 kR)
theorem YO(xs:List zC):∀r,r∈xs.map zC.row->r.length=7:=xH (f:=zC.row) (λ_=>rfl) xs
theorem Ts(fs:List Go.As.Fn):∀r,r∈fs.map Go.As.Fn.row->r.length=2:=xH (f:=Go.As.Fn.row) (λ_=>rfl) fs
def fnP(f:Go.As.Fn):HP:=ZG 42 7 f.cv (f.code.map zC.row)
def pgP(q:Pg):HP:=aj [ZG 3 1 q.gv (q.globals.map zV),ZG 50 2 q.fv (q.funcs.map Go.As.Fn.row),aj (q.funcs.map fnP)]
section
variable {lo:yT}{h:za}{L:List HP}
theorem BD{q:Pg}(s:Sat lo h (pgP q::L))(h1:q.globals.length<=17592186043904)(h2:q.funcs.length*24<=140737488351232)(h3:∀f,f∈q.funcs->f.code.length*56<=140737488351232):kR h q:=by
 have s1:=s.open;refine⟨I3 s1 (by simp),h1,y6 (s1.p 1) (Ts _),h2,λf hf=>⟨?_,h3 f hf⟩⟩;have:=FH (s1.p 2) (acb (f:=fnP) hf);exact y6 this (YO _)
end
open Go.Rtl (KU Dp Uq wC pS vo)
theorem mB{t te:TypeId}{n bz:Nat}(hap:∀(r:TypeId) (v x:aaa) (k:Nat) (new:List aaa) (h:za),Kv x=some k->kh h k n x=some new->new.all wG=true->new.length=k*n->zB pu .append [t,t] r [v,x] h=UJ h te n bz k new v)
  {h:za} {x:aaa} {rows:List (List aaa)} {e:Nat} (S:zE (h.push (.cells [] te)) x n rows) (h0n:0<n) (hn:∀r,r∈rows->r.length=n) (hc:rows.flatten.all wG=true) (Ui:rows.length*bz<=2^47) (hro:h.ro<=h.next) (he:h.next<e) {K:aaa->za->Prop} (k:∀v h6,KU h h6 te v rows->Old h h6->h6.ro<=h6.next->K v h6) :
  JA pu [t,t] t [.slice (some ⟨h.next,0,none⟩) 0 2,x] (some (h.next,e)) (h.push (.cells [] te)) (h.push (.cells [] te)) K:=by
 refine⟨⟨aaj _,he,by rw[wt];simp⟩,?_⟩;have W:KU h (h.push (.cells [] te)) te (.slice (some ⟨h.next,0,none⟩) 0 2) [] := .inr ⟨h.next,2,rfl,by decide,aaj _,aaJ _,hro,wt⟩;obtain⟨l',h',a1,a2,a3,a4,a5,a6,a7,_⟩:=Dp (n:=n) (bz:=bz) W (abC hro) (abz _) h0n (λr hr=>by cases hr) (ys:=rows) (by simpa using Ui);have a0:=hap t (.slice (some ⟨h.next,0,none⟩) 0 2) x rows.length rows.flatten (h.push (.cells [] te)) S.Ag (S.first h0n hn) hc (vo hn);rw[a0,a1,ZW rfl,ZW S.ai,JP];show K l' _;have hr:(vz (JZ (h.push (.cells [] te)) (.slice (some ⟨h.next,0,none⟩) 0 2) h') h').ro=h.ro:=by rw[Uq,re];rfl
 have a5':h.next+1<=h'.next:=a5
 have gg:∀b,(vz (JZ (h.push (.cells [] te)) (.slice (some ⟨h.next,0,none⟩) 0 2) h') h').get b=if h.next<=b/\b<h'.next then h'.get b else h.get b:=by
  intro b;rw[vp,KK];show(if h.next+1<=b/\b<h'.next then h'.get b else ((h.push (.cells [] te)).set h.next (h'.get h.next)).get b)=_;by_cases hb:h.next+1<=b/\b<h'.next
  ·rw[aai hb,aai ⟨by omega,hb.2⟩]
  ·rw[aaf hb];by_cases hb2:b=h.next
   ·subst hb2;rw[YN,aai ⟨aaj _,by omega⟩]
   ·rw[q9 hb2,aaf (by omega),za.vY,aaf hb2]
 refine k _ _ ?_ ⟨by rw[wC];omega,hr,λb hb=>by rw[gg,aaf (by omega)]⟩ ?_
 ·rw[abA]at a2;rcases a2 with q|⟨b,c,q1,q2,q3,q4,q5,q6⟩
  ·exact .inl q
  ·refine .inr ⟨b,c,q1,q2,q3,q4,?_,?_⟩
   ·rw[hr];omega
   ·rw[gg,aai ⟨q3,q4⟩];exact q6
 ·rw[hr,wC];omega
end Go.Ar
namespace Go.Ac
open Go.Ai Go.Proofs
open Go.Rtl (zK zE Old inc vS FH cu lF I3 zaL MO Ak KV KU)
open Go.Rm (Rd Rd.of Rd.at ZG y6 wJ W7 xf vq xH zV)
open Go.As (zC Pg W8 kR VU ZO jO qI)
open Go.Ar (fnP pgP YO Ts mB)
section
variable {h:za}{p:Pg}
end
end Go.Ac
namespace Go.Eb
open Go.Ai Go.Proofs
open Go.Rtl (zK zE Old inc zaL Ak KV vS)
open Go.Rm (ZG yR xf vq y6 wJ YX xH zV Rd Rd.of Rd.at Rd.mono)
open Go.As (zC Pg W8 kR uD vw VU jO Zl)
open Go.Ar (wE)
open Go.En
def Lf(p:Pg)(h:za)(v:aaa)(h':za):Prop :=
 if Zl p=true then ∃cv sv gv,v=.tuple #[.agg #[cv,sv,gv,.int .i64 p.main,.int .i64 p.params],.int .i64 0]/\Sat (.of h) h' [vu cv (gh p),ZG 3 1 sv ((YY p.funcs).map zV),ZG 3 1 gv (p.globals.map zV)]
 else v=.tuple #[.agg #[.slice none 0 0,.slice none 0 0,.slice none 0 0,.int .i64 0,.int .i64 0],.int .i64 1]/\Sat (.of h) h' []
section
variable {h:za}{p:Pg}
theorem iO(P:kR h p)(hsz:Zl p=true->wx p.funcs<=1000000):DC Tryz.prog 10 [p.val] h (Lf p h):=by
 apply YZ;intro wf;apply F9;unfold F8;have s0:Sat (.of h) h []:=Sat.self wf.2;have RP:Rd (.of h) (kR · p):=Rd.of (yT.jH h) P λh' o=>P.old o;have gvn:=P.globals.ai;have gvc:=P.globals.N0;have fvn:=P.funcs.ai;have fvc:=P.funcs.N0;simp only[EE,nth,Value.cells,↓zq,zp,seval,ab5,qQ,zu,aay,yU,ua,qW,Wf,jI,zg,UF,wK,Zk,ZR,VS,UH,Qy,QA,QB,VT,yI,Vt,QC,VV,uw,Vu,WR,uX,jN,qX,wy,w8,uz,kg,uA,ji,zc,zn,xK,zw,um,Wv,QP,QQ,Vz,QR,Xv,Xw,KH,vZ,qv,gvn,gvc,fvn,fvc];refine qc s0 λb1 h2 s2=>?_;simp only[EE,nth,Value.cells,↓zq,zp,seval,ab5,qQ,zu,aay,yU,ua,qW,Wf,jI,zg,UF,wK,Zk,ZR,VS,UH,Qy,QA,QB,VT,yI,Vt,QC,VV,uw,Vu,WR,uX,jN,qX,wy,w8,uz,kg,uA,ji,zc,zn,xK,zw,um,Wv,QP,QQ,Vz,QR,Xv,Xw,KH,vZ,qv,gvn,gvc,fvn,fvc];refine qc s2 λb2 h4 s4=>?_;have g1:=(s4.p 1).get;simp only[EE,nth,Value.cells,↓zq,zp,seval,ab5,qQ,zu,aay,yU,ua,qW,Wf,jI,zg,UF,wK,Zk,ZR,VS,UH,Qy,QA,QB,VT,yI,Vt,QC,VV,uw,Vu,WR,uX,jN,qX,wy,w8,uz,kg,uA,ji,zc,zn,xK,zw,um,Wv,QP,QQ,Vz,QR,Xv,Xw,KH,vZ,qv,g1,gvn,gvc,fvn,fvc];refine aq (by simp only[yi,gvn,fvn,aaw];rfl) (Go.As.zdT (RP.at s4)) ?_;cases hg:Zl p with
 |false=>
  simp only[EE,nth,Value.cells,↓zq,zp,seval,ab5,qQ,zu,aay,yU,ua,qW,Wf,jI,zg,UF,wK,Zk,ZR,VS,UH,Qy,QA,QB,VT,yI,Vt,QC,VV,uw,Vu,WR,uX,jN,qX,wy,w8,uz,kg,uA,ji,zc,zn,xK,zw,um,Wv,QP,QQ,Vz,QR,Xv,Xw,KH,vZ,qv,fu];refine yf s4 (by simp) rfl λh5 s5=>?_;have g2:=s5.get;simp only[EE,nth,Value.cells,↓zq,zp,seval,ab5,qQ,zu,aay,yU,ua,qW,Wf,jI,zg,UF,wK,Zk,ZR,VS,UH,Qy,QA,QB,VT,yI,Vt,QC,VV,uw,Vu,WR,uX,jN,qX,wy,w8,uz,kg,uA,ji,zc,zn,xK,zw,um,Wv,QP,QQ,Vz,QR,Xv,Xw,KH,vZ,qv,fu,g2];unfold Lf;rw[aaf (by rw[hg];decide)];exact⟨rfl,s5.drop.drop⟩
 |true=>
  have X:=MD hg;have hsz:=hsz hg;have l1:=(s4.p 1).lt;have gc1:∀t,(cut (h4.push (.cells [] 3)) h4.next t).get b1=some (.cells [p.gv,p.fv,.int .i64 p.main,.int .i64 p.params] 25):=λt=>by rw[Xu l1,yq l1];exact g1
  simp only[EE,nth,Value.cells,↓zq,zp,seval,ab5,qQ,zu,aay,yU,ua,qW,Wf,jI,zg,UF,wK,Zk,ZR,VS,UH,Qy,QA,QB,VT,yI,Vt,QC,VV,uw,Vu,WR,uX,jN,qX,wy,w8,uz,kg,uA,ji,zc,zn,xK,zw,um,Wv,QP,QQ,Vz,QR,Xv,Xw,KH,vZ,qv,ot,gc1];refine Ak (h:=h4) ((RP.at s4).globals.old (Old.push _ _)) P.Tx s4.base.FE (aaJ _) ?_;intro gv' h6 W e6 r6;have s6:=zaL W e6 r6 s4;have g6:h6.get b1=some (.cells [p.gv,p.fv,.int .i64 p.main,.int .i64 p.params] 25):=(s6.p 2).get
  have gcc:(cut (cut h6 h4.next (h4.next+1)) (h4.next+1) h6.next).get b1=some (.cells [p.gv,p.fv,.int .i64 p.main,.int .i64 p.params] 25):=by
   rw[Xu (by show b1<h4.next+1;omega),Xu l1];exact g6
  obtain⟨va,vl,vc,rfl⟩:=W.shape;have fll:=X.fl;have lf:=λh'=>jO (RP.at s6).funcs 3 h';simp only[EE,nth,Value.cells,↓zq,zp,seval,ab5,qQ,zu,aay,yU,ua,qW,Wf,jI,zg,UF,wK,Zk,ZR,VS,UH,Qy,QA,QB,VT,yI,Vt,QC,VV,uw,Vu,WR,uX,jN,qX,wy,w8,uz,kg,uA,ji,zc,zn,xK,zw,um,Wv,QP,QQ,Vz,QR,Xv,Xw,KH,vZ,qv,Qg,gcc];refine qc s6 λb4 h8 s8=>?_;simp only[EE,nth,Value.cells,↓zq,zp,seval,ab5,qQ,zu,aay,yU,ua,qW,Wf,jI,zg,UF,wK,Zk,ZR,VS,UH,Qy,QA,QB,VT,yI,Vt,QC,VV,uw,Vu,WR,uX,jN,qX,wy,w8,uz,kg,uA,ji,zc,zn,xK,zw,um,Wv,QP,QQ,Vz,QR,Xv,Xw,KH,vZ,qv,Qg];refine yf s8 (by simp) (by rfl) λh9 s9=>?_;have g1:=(s9.p 3).get;have n0:(0:Int)<=(p.funcs.length:Int):=by omega
  have n1:(p.funcs.length:Int)<=(p.funcs.length:Int):=Int.le_refl _;have n2:(p.funcs.length:Int)<2147483648:=by omega
  have mk:=KH .i64 .i64 (p.funcs.length:Int) (p.funcs.length:Int) h9 n0 n1 n2;rw[aa6,abR,PY]at mk;have s10:=s9.push (.cells (dQ [] p.funcs.length) 65);have g1':=(s10.p 4).get;simp only[EE,nth,Value.cells,↓zq,zp,seval,ab5,qQ,zu,aay,yU,ua,qW,Wf,jI,zg,UF,wK,Zk,ZR,VS,UH,Qy,QA,QB,VT,yI,Vt,QC,VV,uw,Vu,WR,uX,jN,qX,wy,w8,uz,kg,uA,ji,zc,zn,xK,zw,um,Wv,QP,QQ,Vz,QR,Xv,Xw,vZ,qv,Qg,g1,fvn,lf,mk,g1'];refine zaO (p:=p) (lo := .of h) RP (λf fm x hx=>(X.ins f fm x hx).lay) hsz (λf fm=>by have:=X.cf f fm;omega) X.fl ((wJ 3 1 s10).f [1,0,2]) rfl λh11 lo1 ls sv hle hls hLR s11=>?_;obtain⟨lo2,l2,hL,s12⟩:=zdc s11;obtain⟨lo3,l3,hS,s13,back⟩:=YX s12 (pY _);have RP3:Rd lo3 (kR · p):=RP.mono ((hle.trans l2).trans l3);have g1:=(s13.p 3).get;simp only[EE,nth,Value.cells,↓zq,zp,seval,ab5,qQ,zu,aay,yU,ua,qW,Wf,jI,zg,UF,wK,Zk,ZR,VS,UH,Qy,QA,QB,VT,yI,Vt,QC,VV,uw,Vu,WR,uX,jN,qX,wy,w8,uz,kg,uA,ji,zc,zn,xK,zw,um,Wv,QP,QQ,Vz,QR,Xv,Xw,KH,vZ,qv,oq,g1];refine mK (by simp only[yi,gvn,aaw]) (cB (BG (RP3.at s13).globals X.gr (aaW X.gl (by decide)))) ?_;rintro av h14 ⟨s14,w14⟩;have s15:=s13.join s14;have avn:=xf s14;obtain⟨lo4,l4,hA,s16,_⟩:=YX s15 (pY _);have g1:=(s16.p 3).get;have lf:=λh'=>jO ((RP3.mono l4).at s16).funcs 3 h';simp only[EE,nth,Value.cells,↓zq,zp,seval,ab5,qQ,zu,aay,yU,ua,qW,Wf,jI,zg,UF,wK,Zk,ZR,VS,UH,Qy,QA,QB,VT,yI,Vt,QC,VV,uw,Vu,WR,uX,jN,qX,wy,w8,uz,kg,uA,ji,zc,zn,xK,zw,um,Wv,QP,QQ,Vz,QR,Xv,Xw,KH,vZ,qv,oj,g1,avn,fvn,lf];have hK:Rd lo4 (FX p h9.next ls sv av):=λh b=>⟨RP3.mono l4 h b,(hLR.mono (l2.trans (l3.trans l4))) h b,(hL.mono (l3.trans l4)) h b,(hS.mono l4) h b,hA h b⟩;refine zbo (p:=p) hK X hls hsz w14 s16 rfl λh17 cv s17=>?_;have s18:=Sat.mono l4 s17;have s19:=back _ _ s18;have s20:=Sat.mono (hle.trans l2) s19;have g4:=(s20.p 1).get;have svn:=xf s20;have svc:=vq s20;have cvn:=y9 (s20.p 2);have cvc:=QF (s20.p 2);simp only[EE,nth,Value.cells,↓zq,zp,seval,ab5,qQ,zu,aay,yU,ua,qW,Wf,jI,zg,UF,wK,Zk,ZR,VS,UH,Qy,QA,QB,VT,yI,Vt,QC,VV,uw,Vu,WR,uX,jN,qX,wy,w8,uz,kg,uA,ji,zc,zn,xK,zw,um,Wv,QP,QQ,Vz,QR,Xv,Xw,KH,vZ,qv,aO,g4,svn,cvn,svc,cvc];refine yf (s20.p 4) (by simp) (by simp[svc,cvc];exact⟨rfl,rfl,rfl⟩) λh21 s21=>?_;have g2:=s21.get;simp only[EE,nth,Value.cells,↓zq,zp,seval,ab5,qQ,zu,aay,yU,ua,qW,Wf,jI,zg,UF,wK,Zk,ZR,VS,UH,Qy,QA,QB,VT,yI,Vt,QC,VV,uw,Vu,WR,uX,jN,qX,wy,w8,uz,kg,uA,ji,zc,zn,xK,zw,um,Wv,QP,QQ,Vz,QR,Xv,Xw,KH,vZ,qv,aO,g2,svn,cvn];unfold Lf;rw[aai hg];refine⟨cv,sv,.slice va vl vc,rfl,?_⟩;exact s21.k [3,1,4]
end
open Go.Rm (W7)
section
variable {lo:yT}{h:za}{L:List HP}{p:Pg}{b1 c n o i st:Nat}{sv av lv:aaa}{f:Go.As.Fn}{x:zC}{J:List aaa->za->Prop}{v0 v1 v2:aaa}
end
open Go.Ar (JR)
section
variable {lo:yT}{h:za}{L:List HP}{p:Pg}{b1 b13 b15 c n o i j:Nat}{sv av gv cv:aaa}{ls:List aaa}{f:Go.As.Fn}{x:zC}{J:List aaa->za->Prop}{v0 v1 v2:aaa}
end
end Go.Eb
namespace Go.En
open Go.Ai Go.Proofs
open Go.As (zC Pg)
def Wt(b:List Int)(s t:RS)(xs:List Int):Prop:=s.2=false/\t.2=false/\t.1=s.1+xs.length /\ ∀i,i<xs.length->b[s.1+i]? = xs[i]?
section
variable {b:List Int}{s t u:RS}{xs ys:List Int}{z k:Int}
theorem Wt.app(h:Wt b s t xs)(g:Wt b t u ys):Wt b s u (xs++ys):=by
 obtain⟨h1,h2,h3,h4⟩:=h;obtain⟨g1,g2,g3,g4⟩:=g;refine⟨h1,g2,by rw[aao];omega,λi hi=>?_⟩;rw[aao]at hi;by_cases c:i<xs.length
 ·rw[aba c];exact h4 i c
 ·rw[aa8 (by omega),<- g4 (i-xs.length) (by omega)]
  congr 1;omega
theorem Wt.nil(h:s.2=false):Wt b s s []:=⟨h,h,rfl,λi hi=>by cases hi⟩
theorem Wt.all(h:Wt b (0,false) t xs):b=xs++b.drop xs.length:=by
 obtain⟨h1,h2,h3,h4⟩:=h
 have e:b.take xs.length=xs:=by
  refine abL λi=>?_;by_cases c:i<xs.length
  ·rw[aaV c,<- h4 i c];congr 1;omega
  ·rw[aat (by rw[aaM];omega),aat (by omega)]
 conv=>lhs;rw[<- abn xs.length b,e]
theorem vO(ht:(zG b s).2.2=false):Wt b s (zG b s).2 [(zG b s).1]:=by
 unfold zG at ht ⊢;cases h:b[s.1]? with
 |none=>rw[h]at ht;cases ht
 |some v=>
  rw[h]at ht;refine⟨ht,ht,rfl,λi hi=>?_⟩;have:i=0:=by simp at hi;omega
  subst this;exact h
theorem v8{c:Bool}(h:(zY c s).2=false):c=false/\zY c s=s:=by
 unfold zY at h ⊢;rw[abc]at h;exact⟨h.2,by rw[h.2,Bool.or_false]⟩
theorem bY:∀n:Nat,(kI b n s).2.2=false->Wt b s (kI b n s).2 (kI b n s).1/\(kI b n s).1.length=n
 |0,h=>⟨Wt.nil h,rfl⟩
 |n+1,h=>by
  have a:=vO (b:=b) (s:=(kI b n s).2) h;obtain⟨h1,h2⟩:=bY n a.1;exact⟨h1.app a,by show((kI b n s).1++[_]).length=n+1;rw[aao,h2];rfl⟩
theorem bt(hb:xJ b)(h:Wt b s t xs):xJ xs:=by
 intro x hx;obtain⟨i,hi⟩:=ab9 hx;have:=h.2.2.2 i (aaZ.1 hi).1;rw[hi]at this;exact hb x (aaz this)
theorem VC(hb:xJ b)(ht:(wI b s).2.2=false):Wt b s (wI b s).2 (yX 4 (wI b s).1)/\Go.Ar.zQ (wI b s).1=true:=by
 obtain⟨h1,h2⟩:=bY (b:=b) (s:=s) 4 ht;have hx:=bt hb h1;refine⟨?_,bQ h2 hx⟩;show Wt b s (kI b 4 s).2 (yX 4 (Vy (kI b 4 s).1));rw[P2 h2 hx];exact h1
theorem T3(hb:xJ b)(ht:(Ul b s).2.2=false):Wt b s (Ul b s).2 (yX 8 (Ul b s).1) /\ ∃xs,Wt b s (Ul b s).2 xs/\xs.length=8/\(Ul b s).1=QN xs:=by
 obtain⟨h1,h2⟩:=bY (b:=b) (s:=s) 8 ht;have hx:=bt hb h1;refine⟨?_,_,h1,h2,rfl⟩;show Wt b s (kI b 8 s).2 (yX 8 (QN (kI b 8 s).1));rw[P3 h2 hx];exact h1
end
theorem ck{z w:Int}(h0:0<=z)(h1:z<256):zL (qT z w)/\zL (ZY z w):=by
 unfold zL qT ZY
 constructor <;> (split <;> omega)
theorem KN{base z w:Int}(h0:0<=z)(h1:z<256)(hw:w=base\/w=base+1\/w=base+4\/w=base+5)(h8:base%8=0):zj base (qT z w) (ZY z w)=w:=by
 have r1:8<=qT z w ↔ w/4%2=1:=by unfold qT;split <;> omega
 have r2:8<=ZY z w ↔ w%2=1:=by unfold ZY;split <;> omega
 unfold zj;rcases hw with rfl|rfl|rfl|rfl <;> split <;> split <;> omega
theorem lz(z w:Int):qT z w%8=z/8%8/\ZY z w%8=z%8:=by
 unfold qT ZY
 constructor <;> (split <;> omega)
theorem BV{z w:Int}(h0:0<=z)(h1:z<256)(h3:z/64=3):zW (qT z w) (ZY z w)=z:=by
 unfold zW;rw[(lz z w).1,(lz z w).2];omega
theorem BF{z w:Int}(h0:0<=z)(h1:z<256)(h3:z/64=2):128+qT z w%8*8+ZY z w%8=z:=by
 rw[(lz z w).1,(lz z w).2];omega
section
variable {b:List Int}{s:RS}{w:Int}
inductive RR (b:List Int) (w:Int) (s t:RS):pD->Prop
 |two (z:Int):0<=z->z<256->z/64=3->Wt b s t [z]->RR b w s t ⟨qT z w,ZY z w,false,false,0⟩
 |mem (z k:Int):0<=z->z<256->z/64=2->Go.Ar.zQ k=true->Wt b s t (uB (qT z w) (ZY z w) k)->RR b w s t ⟨qT z w,ZY z w,true,false,k⟩
 |place (z k:Int):0<=z->z<64->z%8=5->¬w%2=1->Go.Ar.zQ k=true->Wt b s t (z::yX 4 k)->RR b w s t ⟨qT z w,ZY z w,false,true,k⟩
theorem KM(hb:xJ b)(ht:(uZ b w s).2.2=false):RR b w s (uZ b w s).2 (uZ b w s).1:=by
 have fin:∀{t:RS},(zG b s).2.2=false->Wt b s (zG b s).2 [(zG b s).1]/\0<=(zG b s).1/\(zG b s).1<256:=λ{t} h=>by
  have a:=vO h;have:=bt hb a _ (aar.2 rfl);exact⟨a,this.1,this.2⟩
 unfold uZ at ht ⊢;simp only at ht ⊢;by_cases h3:(zG b s).1/64=3
 ·rw[aai h3]at ht ⊢;obtain⟨a,h0,h1⟩:=fin (t:=s) ht;exact .two _ h0 h1 h3 a
 rw[aaf h3]at ht ⊢;by_cases h2:(zG b s).1/64=2
 ·rw[aai h2]at ht ⊢;simp only at ht ⊢;obtain⟨q,qs⟩:=VC hb ht;have s1:=q.1;unfold nd at q qs s1 ⊢;by_cases hm:ZY (zG b s).1 w%8=4
  ·rw[aai hm]at q qs s1 ⊢;obtain⟨p1,p2⟩:=v8 s1;rw[p2]at q qs s1 ⊢;have p3:(zG b (zG b s).2).1=36:=by simpa using p1
   have a2:=vO s1;obtain⟨a,h0,h1⟩:=fin (t:=s) a2.1;refine .mem _ _ h0 h1 h2 qs ?_;unfold uB WY;rw[aai hm,BF h0 h1 h2];have:=(a.app a2).app q;rw[p3]at this;exact this
  ·rw[aaf hm]at q qs s1 ⊢;obtain⟨a,h0,h1⟩:=fin (t:=s) s1;refine .mem _ _ h0 h1 h2 qs ?_;unfold uB WY;rw[aaf hm,BF h0 h1 h2];exact a.app q
 rw[aaf h2]at ht ⊢;by_cases h0':(zG b s).1/64=0
 ·rw[aai h0']at ht ⊢;simp only at ht ⊢;obtain⟨q,qs⟩:=VC hb ht;have s1:=q.1;obtain⟨p1,p2⟩:=v8 s1;rw[p2]at q qs s1 ⊢;rw[abc,aan,aan]at p1;obtain⟨a,h0,h1⟩:=fin (t:=s) s1;exact .place _ _ h0 (by omega) (Classical.not_not.1 p1.1) p1.2 qs (a.app q)
 ·rw[aaf h0']at ht;exact absurd (v8 ht).1 (by decide)
end
def Qa(r m:Int):List zC:=[⟨1,m,r,0,0,0,0⟩,⟨15,m,r,0,0,0,0⟩,⟨14,0,m,0,0,0,0⟩,⟨10,r,m,3,0,0,0⟩,⟨10,r,m,4,0,0,0⟩,⟨9,m,0,2,0,0,0⟩,⟨9,m,0,1,0,0,0⟩,⟨12,m,0,19,0,0,0⟩,⟨12,m,0,20,0,0,0⟩,⟨7,r,m,13,0,0,0⟩]
def BC:List Int:=[11,12,16,17,18]
def Cb(r m:Int)(n:Nat):List zC:=(BC.take n).map λs=>⟨7,m,r,s,0,0,0⟩
def BQ(m:Int)(n:Nat):List zC:=((List.range n).map λc=>⟨17,m,0,0,21+(c:Nat),0,0⟩)
def Oi(r m k:Int):List zC:=[⟨2,m,0,0,0,0,k⟩,⟨16,m,0,0,0,0,k⟩,⟨5,r,m,0,0,0,k⟩,⟨23,0,0,0,0,0,k⟩,⟨24,0,0,0,0,0,k⟩,⟨8,m,0,13,0,0,k⟩]
def TE(m k:Int)(n:Nat):List zC:=(BC.take n).map λs=>⟨8,m,0,s,0,0,k⟩
def Io(r m k:Int)(n:Nat):List zC:=(([1,2,4,8]:List Int).take n).flatMap λs=>[⟨3,r,m,s,0,0,k⟩,⟨4,r,m,s,0,0,k⟩]
def kL(r m k:Int):List zC:=Oi r m k++TE m k 5++Io r m k 4
def ch(r m:Int)(ks:List Int):List zC:=Qa r m++Cb r m 5++BQ m 6++ks.flatMap (kL r m)
def zU(b:List Int)(i:Nat):Int:=b[i]?.getD 0
def DS(b:List Int)(p:Nat):List Int:=(if p+5<=b.length then [Vy ((b.drop (p+1)).take 4)] else [])++(if p+6<=b.length then [Vy ((b.drop (p+2)).take 4)] else [])
def RG(b:List Int)(p:Nat):List zC:=ch (qT (zU b p) (zU b 0)) (ZY (zU b p) (zU b 0)) (DS b p)
def g3(b:List Int):List zC:=if 3<=b.length then RG b 2++(if 4<=b.length then RG b 3 else []) else []
def FQ(b:List Int):List zC:=if 10<=b.length then [⟨2,ZY (zU b 1) (zU b 0),0,0,0,0,QN ((b.drop 2).take 8)⟩] else []
def g4(b:List Int):List zC:=if 4<=b.length then [⟨11,ZY (zU b 2) (zU b 0),0,19,0,0,zU b 3⟩,⟨11,ZY (zU b 2) (zU b 0),0,20,0,0,zU b 3⟩] else []
def dP:List zC:=[⟨13,0,0,0,0,0,0⟩,⟨22,0,0,0,0,0,0⟩,⟨25,0,0,0,0,0,0⟩,⟨26,0,0,0,0,0,0⟩]
def qD(b:List Int):List zC:=g3 b++FQ b++g4 b++dP
def QX(x:zC):List Int:=[zj 72 0 x.r,184+x.r%8]++yX 8 x.k
section
variable {b:List Int}{t s:RS}{xs:List Int}{x:zC}{w o z k r m s2:Int}{p:Nat}
def KW(b:List Int)(p:Nat)(r m:Int):Prop:=(p=2\/p=3)/\p<b.length/\r=qT (zU b p) (zU b 0)/\m=ZY (zU b p) (zU b 0)
theorem KW.mem(S:KW b p r m)(h:x∈ch r m (DS b p)):x∈qD b:=by
 obtain⟨h1,h2,rfl,rfl⟩:=S;unfold qD g3;rw[aai (by omega)];refine aaK _ (aaK _ (aaK _ ?_));rcases h1 with rfl|rfl
 ·exact aaK _ h
 ·rw[aai (by omega)];exact aa5 _ h
theorem KW.p0(S:KW b p r m)(h:x∈Qa r m):x∈qD b:=S.mem (aaK _ (aaK _ (aaK _ h)))
theorem KW.NC(S:KW b p r m)(h:s2∈BC):⟨7,m,r,s2,0,0,0⟩∈qD b:=S.mem (aaK _ (aaK _ (aa5 _ (acb (f:=λs=>(⟨7,m,r,s,0,0,0⟩:zC)) h))))
theorem KW.set(S:KW b p r m)(h0:21<=s2)(h1:s2<=26):⟨17,m,0,0,s2,0,0⟩∈qD b:=S.mem (aaK _ (aa5 _ (by
 have:s2=21\/s2=22\/s2=23\/s2=24\/s2=25\/s2=26:=by omega
 rcases this with rfl|rfl|rfl|rfl|rfl|rfl <;> simp[BQ,List.range,List.range.loop])))
theorem KW.kk(S:KW b p r m)(hk:k∈DS b p)(h:x∈kL r m k):x∈qD b:=S.mem (aa5 _ (List.mem_flatMap.2 ⟨k,hk,h⟩))
theorem Oj(A:Wt b (0,false) t (xs++yX 4 k))(hk:Go.Ar.zQ k=true)(hl:xs.length=p+1\/xs.length=p+2):k∈DS b p:=by
 have e:=A.all;rw[aa1]at e
 have hd:(b.drop xs.length).take 4=yX 4 k:=by
  rw[e,List.drop_left];exact List.take_left' (xb 4 k)
 have hn:xs.length+4<=b.length:=by rw[e,aao,aao,xb];omega
 unfold DS;rcases hl with hl|hl
 ·refine aaK _ ?_;rw[aai (by omega),<- hl,hd,dy hk];exact aar.2 rfl
 ·refine aa5 _ ?_;rw[aai (by omega),<- hl,hd,dy hk];exact aar.2 rfl
theorem Uf(A:Wt b (0,false) t xs){i:Nat}{v:Int}(h:xs[i]? = some v):zU b i=v/\i<b.length:=by
 have hi:=(aaZ.1 h).1;have:=A.2.2.2 i hi;rw[h]at this;have:b[i]? = some v:=by rw[<- this];congr 1;omega
 exact⟨by unfold zU;rw[this];rfl,(aaZ.1 this).1⟩
theorem VG{base:Int}(hx:xs[0]? = some (zj base r m))(hz:xs[p]? = some z)(hp:p=2\/p=3)(A:Wt b (0,false) t xs)(R:zL r)(M:zL m)(hbase:base=72\/base=64)(z1:z/8%8=r%8)(z2:z%8=m%8):KW b p r m:=by
 have a0:=Uf A hx;have a1:=Uf A hz
 have w:(zj base r m/4%2=1 ↔ 8<=r)/\(zj base r m%2=1 ↔ 8<=m):=by
  rcases hbase with rfl|rfl
  ·exact⟨(lE r m).2.1,(lE r m).2.2⟩
  ·exact⟨(OJ r m).2.1,(OJ r m).2.2⟩
 refine⟨hp,a1.2,?_,?_⟩
 ·rw[a0.1,a1.1,lA (b:=m) R.1 R.2 w.1 z1]
 ·rw[a0.1,a1.1,MI M.1 M.2 w.2 z2]
def eT(b:List Int)(q:zC×RS):Prop:=q.1∈qD b/\(Wt b (0,false) q.2 (ze q.1 0)\/(q.1.op=2/\Go.Ar.zQ q.1.k=true/\Wt b (0,false) q.2 (QX q.1)))
theorem Wt.ge(A:Wt b (0,false) t xs):xs.length<=b.length:=by
 have:=congrArg List.length A.all;rw[aao]at this;omega
theorem Mo(A:Wt b (0,false) t (xs++uB r m k))(hk:Go.Ar.zQ k=true)(hp:xs.length=p):k∈DS b p:=by
 unfold uB at A;rw[<- aa1]at A;refine Oj A hk ?_;unfold WY;rw[aao];split
 ·right;simp[hp]
 ·left;simp[hp]
theorem TT:(uB r m k)[0]? = some (128+r%8*8+m%8):=by
 unfold uB WY;split <;> rfl
theorem SC(R:zL r)(M:zL m)(hk:Go.Ar.zQ k=true)(ho:¬o=15)(A:Wt b (0,false) s ([zj 72 r m,o]++uB r m k))(ht:(u0 o s2 ⟨r,m,true,false,k⟩ s).2.2=false):eT b (u0 o s2 ⟨r,m,true,false,k⟩ s):=by
 have t:=QU r m;have S:KW b 2 r m:=VG (base:=72) rfl (show(uB r m k)[0]? = _ from TT) (.inl rfl) A R M (.inl rfl) t.2.1 t.2.2;have K:=Mo A hk (p:=2) rfl;unfold u0 at ht ⊢;by_cases h1:o=139
 ·subst h1;exact⟨S.kk K (by simp[kL,Io]),.inl A⟩
 rw[aaf h1]at ht ⊢;by_cases h2:o=99
 ·subst h2;exact⟨S.kk K (by simp[kL,Io]),.inl A⟩
 rw[aaf h2,aaf (λq=>ho q.1)]at ht ⊢;by_cases h3:o=137
 ·subst h3;exact⟨S.kk K (by simp[kL,Io]),.inl A⟩
 rw[aaf h3]at ht ⊢;by_cases h4:o=141
 ·subst h4;exact⟨S.kk K (by simp[kL,Oi]),.inl A⟩
 rw[aaf h4]at ht;exact absurd (v8 ht).1 (by decide)
theorem SD(R:zL r)(M:zL m)(hk:Go.Ar.zQ k=true)(A:Wt b (0,false) s ([zj 72 r m,15,s2]++uB r m k))(ht:(u0 15 s2 ⟨r,m,true,false,k⟩ s).2.2=false):eT b (u0 15 s2 ⟨r,m,true,false,k⟩ s):=by
 have t:=QU r m;have S:KW b 3 r m:=VG (base:=72) rfl (show(uB r m k)[0]? = _ from TT) (.inr rfl) A R M (.inl rfl) t.2.1 t.2.2;have K:=Mo A hk (p:=3) rfl;unfold u0 at ht ⊢;rw[aaf (by decide),aaf (by decide)]at ht ⊢;by_cases h1:s2=190
 ·subst h1;exact⟨S.kk K (by simp[kL,Io]),.inl A⟩
 rw[aaf (λq=>h1 q.2),aaf (by decide),aaf (by decide)]at ht;exact absurd (v8 ht).1 (by decide)
theorem OK(R:zL r)(h:r<8)(m:Int):zj 72 r m=zj 72 0 m:=by
 unfold zj;rw[aaf (show ¬8<=r by omega),aaf (show ¬(8:Int)<=0 by decide)]
theorem SI(h:¬qP o=0):qP o∈BC/\kp (qP o)=o /\ ¬qP o=13:=by
 unfold qP at h ⊢;by_cases h1:o=1
 ·subst h1;decide
 by_cases h2:o=41
 ·subst h2;decide
 by_cases h3:o=33
 ·subst h3;decide
 by_cases h4:o=9
 ·subst h4;decide
 by_cases h5:o=49
 ·subst h5;decide
 rw[aaf h1,aaf h2,aaf h3,aaf h4,aaf h5]at h;exact absurd rfl h
theorem Pn(R:zL r)(h:¬qP (r*8+1)=0):ZQ (qP (r*8+1))=r/\r<8/\qP (r*8+1)∈BC /\ ¬qP (r*8+1)=13:=by
 have:=SI h
 have e:r*8+1=1\/r*8+1=41\/r*8+1=33\/r*8+1=9\/r*8+1=49:=by
  unfold qP at h;by_cases h1:r*8+1=1
  ·exact .inl h1
  by_cases h2:r*8+1=41
  ·exact .inr (.inl h2)
  by_cases h3:r*8+1=33
  ·exact .inr (.inr (.inl h3))
  by_cases h4:r*8+1=9
  ·exact .inr (.inr (.inr (.inl h4)))
  by_cases h5:r*8+1=49
  ·exact .inr (.inr (.inr (.inr h5)))
  rw[aaf h1,aaf h2,aaf h3,aaf h4,aaf h5]at h;exact absurd rfl h
 have:r=0\/r=5\/r=4\/r=1\/r=6:=by omega
 rcases this with rfl|rfl|rfl|rfl|rfl <;> decide
theorem zbx{s5:Int}(h:s5∈BC):(⟨8,m,0,s5,0,0,k⟩:zC)∈kL r m k:=aaK _ (aa5 _ (acb (f:=λs=>(⟨8,m,0,s,0,0,k⟩:zC)) h))
theorem L8(hb:xJ b)(R:zL r)(M:zL m)(A:Wt b (0,false) s [zj 72 r m,129,zW r m])(ht:(VP b ⟨r,m,false,false,0⟩ s).2.2=false):eT b (VP b ⟨r,m,false,false,0⟩ s):=by
 have t:=W0 r m;have S:KW b 2 r m:=VG (base:=72) rfl rfl (.inl rfl) A R M (.inl rfl) t.2.1 t.2.2
 have go:(wI b s).2.2=false->(wI b s).1∈DS b 2/\Wt b (0,false) (wI b s).2 ([zj 72 r m,129,zW r m]++yX 4 (wI b s).1):=λh=>by
  obtain⟨q,qs⟩:=VC hb h;have A2:=A.app q;exact⟨Oj A2 qs (.inl rfl),A2⟩
 unfold VP at ht ⊢;simp only at ht ⊢;by_cases h1:r=7
 ·subst h1;rw[aai rfl]at ht ⊢;obtain⟨K,A2⟩:=go ht;exact⟨S.kk K (by simp[kL,Oi]),.inl (by rw[OK R (by decide)]at A2;exact A2)⟩
 rw[aaf h1]at ht ⊢;by_cases h2:m=4/\r=5
 ·obtain⟨rfl,rfl⟩:=h2;rw[aai ⟨rfl,rfl⟩]at ht ⊢;obtain⟨K,A2⟩:=go ht;exact⟨S.kk K (by simp[kL,Oi]),.inl A2⟩
 rw[aaf h2]at ht ⊢;by_cases h3:m=4/\r=0
 ·obtain⟨rfl,rfl⟩:=h3;rw[aai ⟨rfl,rfl⟩]at ht ⊢;obtain⟨K,A2⟩:=go ht;exact⟨S.kk K (by simp[kL,Oi]),.inl A2⟩
 rw[aaf h3]at ht ⊢;obtain⟨p1,p2⟩:=v8 ht;rw[p2]at ht ⊢;obtain⟨K,A2⟩:=go ht;obtain⟨d1,d2,d3,d4⟩:=Pn R (of_decide_eq_false p1);refine⟨S.kk K (zbx d3),.inl ?_⟩;have e:ze ⟨8,m,0,qP (r*8+1),0,0,(wI b s).1⟩ 0=if qP (r*8+1)=13 then [zj 72 m m,105,zW m m]++yX 4 (wI b s).1 else [zj 72 0 m,129,zW (ZQ (qP (r*8+1))) m]++yX 4 (wI b s).1:=rfl;rw[e,aaf d4,d1,<- OK R d2];exact A2
theorem IY(hb:xJ b)(R:zL r)(M:zL m)(ho:¬o=15)(A:Wt b (0,false) s [zj 72 r m,o,zW r m])(ht:(singleR b o ⟨r,m,false,false,0⟩ s).2.2=false):eT b (singleR b o ⟨r,m,false,false,0⟩ s):=by
 have t:=W0 r m;have S:KW b 2 r m:=VG (base:=72) rfl rfl (.inl rfl) A R M (.inl rfl) t.2.1 t.2.2;unfold singleR at ht ⊢;simp only at ht ⊢;by_cases h1:o=199
 ·subst h1;rw[aai rfl]at ht ⊢;obtain⟨q,qs⟩:=VC hb ht;obtain⟨p1,p2⟩:=v8 q.1;have p1:r=0:=by simpa using p1
  subst p1;rw[p2]at q qs ht ⊢;have A2:=A.app q;refine⟨S.kk (Oj A2 qs (.inl rfl)) (by simp[kL,Oi]),.inl ?_⟩;have e:ze ⟨2,m,0,0,0,0,(wI b s).1⟩ 0=if Go.Ar.zQ (wI b s).1=true then [zj 72 0 m,199,zW 0 m]++yX 4 (wI b s).1 else [zj 72 0 m,184+m%8]++yX 8 (wI b s).1:=rfl;rw[e,aai qs];exact A2
 rw[aaf h1]at ht ⊢;by_cases h2:o=129
 ·subst h2;rw[aai rfl]at ht ⊢;exact L8 hb R M A ht
 rw[aaf h2]at ht ⊢;by_cases h3:o=247/\r=2
 ·obtain⟨rfl,rfl⟩:=h3;rw[aai ⟨rfl,rfl⟩];exact⟨S.p0 (by simp[Qa]),.inl A⟩
 rw[aaf h3]at ht ⊢;by_cases h4:o=247/\r=3
 ·obtain⟨rfl,rfl⟩:=h4;rw[aai ⟨rfl,rfl⟩];exact⟨S.p0 (by simp[Qa]),.inl A⟩
 rw[aaf h4]at ht ⊢;by_cases h5:o=247/\r=7
 ·obtain⟨rfl,rfl⟩:=h5;rw[aai ⟨rfl,rfl⟩];exact⟨S.p0 (by simp[Qa]),.inl A⟩
 rw[aaf h5]at ht ⊢;by_cases h6:o=193
 ·subst h6;rw[aai rfl]at ht ⊢;have q:=vO ht;obtain⟨p1,p2⟩:=v8 q.1;rw[p2]at q ht ⊢
  have p1:r=4\/r=7:=by
   have:=of_decide_eq_false p1;rcases Classical.em (r=4) with h|h
   ·exact .inl h
   ·exact .inr (Classical.not_not.1 λh7=>this ⟨h,h7⟩)
  have A2:=A.app q;have by3:=Uf A2 (i:=3) rfl;have by2:=Uf A2 (i:=2) rfl;have by0:=Uf A2 (i:=0) rfl;have hz:=bt hb q _ (aar.2 rfl);have u:u8 (zG b s).1=(zG b s).1:=by rw[KR];omega
  have em:ZY (zU b 2) (zU b 0)=m:=S.2.2.2.symm
  have ing:∀sh,(sh=19\/sh=20)->(⟨11,m,0,sh,0,0,(zG b s).1⟩:zC)∈qD b:=λsh h=>by
   refine aaK _ (aa5 _ ?_);unfold g4;rw[aai (by omega),em,by3.1];rcases h with rfl|rfl <;> simp
  rcases p1 with rfl|rfl
  ·refine⟨ing 19 (.inl rfl),.inl ?_⟩;have e:ze ⟨11,m,0,19,0,0,(zG b s).1⟩ 0=[zj 72 4 m,193,zW 4 m,u8 (zG b s).1]:=rfl;show Wt b (0,false) _ (ze ⟨11,m,0,19,0,0,(zG b s).1⟩ 0);rw[e,u];exact A2
  ·refine⟨ing 20 (.inr rfl),.inl ?_⟩;have e:ze ⟨11,m,0,20,0,0,(zG b s).1⟩ 0=[zj 72 7 m,193,zW 7 m,u8 (zG b s).1]:=rfl;show Wt b (0,false) _ (ze ⟨11,m,0,20,0,0,(zG b s).1⟩ 0);rw[e,u];exact A2
 rw[aaf h6]at ht ⊢;by_cases h7:o=211
 ·subst h7;rw[aai rfl]at ht ⊢;obtain⟨p1,p2⟩:=v8 ht;rw[p2]
  have p1:r=4\/r=7:=by
   have:=of_decide_eq_false p1;rcases Classical.em (r=4) with h|h
   ·exact .inl h
   ·exact .inr (Classical.not_not.1 λh7=>this ⟨h,h7⟩)
  rcases p1 with rfl|rfl
  ·exact⟨S.p0 (by simp[Qa]),.inl A⟩
  ·exact⟨S.p0 (by simp[Qa]),.inl A⟩
 rw[aaf h7]at ht;exact absurd (v8 ht).1 (by decide)
theorem zeo(hb:xJ b)(R:zL r)(M:zL m)(ho:¬o=15)(A:Wt b (0,false) s [zj 72 r m,o,zW r m])(ht:(kJ b o s2 ⟨r,m,false,false,0⟩ s).2.2=false):eT b (kJ b o s2 ⟨r,m,false,false,0⟩ s):=by
 have t:=W0 r m;have S:KW b 2 r m:=VG (base:=72) rfl rfl (.inl rfl) A R M (.inl rfl) t.2.1 t.2.2;unfold kJ at ht ⊢;simp only at ht ⊢;by_cases h0:qP o=0
 ·rw[aaf (not_not_intro h0)]at ht ⊢;by_cases h1:o=137
  ·subst h1;exact⟨S.p0 (by simp[Qa]),.inl A⟩
  rw[aaf h1]at ht ⊢;by_cases h2:o=99
  ·subst h2;exact⟨S.p0 (by simp[Qa]),.inl A⟩
  rw[aaf h2]at ht ⊢;by_cases h3:o=57
  ·subst h3;exact⟨S.p0 (by simp[Qa]),.inl A⟩
  rw[aaf h3]at ht ⊢;by_cases h4:o=105
  ·subst h4;rw[aai rfl]at ht ⊢;obtain⟨q,qs⟩:=VC hb ht;obtain⟨p1,p2⟩:=v8 q.1;have p1:r=m:=by simpa using p1
   subst p1;rw[p2]at q qs ht ⊢;have A2:=A.app q;exact⟨S.kk (Oj A2 qs (.inl rfl)) (by simp[kL,Oi]),.inl A2⟩
  rw[aaf h4,aaf ho]at ht ⊢;exact IY hb R M ho A ht
 ·rw[aai h0]at ht ⊢;obtain⟨a1,a2,a3⟩:=SI h0;refine⟨S.NC a1,.inl ?_⟩;have e:ze ⟨7,m,r,qP o,0,0,0⟩ 0=if qP o=13 then [zj 72 m r,15,175,zW m r] else [zj 72 r m,kp (qP o),zW r m]:=rfl;rw[e,aaf a3,a2];exact A
theorem zep(R:zL r)(M:zL m)(A:Wt b (0,false) s [zj 72 r m,15,s2,zW r m])(ht:(kJ b 15 s2 ⟨r,m,false,false,0⟩ s).2.2=false):eT b (kJ b 15 s2 ⟨r,m,false,false,0⟩ s):=by
 have t:=W0 r m;have S:KW b 3 r m:=VG (base:=72) rfl rfl (.inr rfl) A R M (.inl rfl) t.2.1 t.2.2;have e:kJ b 15 s2 ⟨r,m,false,false,0⟩ s=if s2=175 then (⟨7,r,m,13,0,0,0⟩,s) else if s2=190 then (⟨10,r,m,3,0,0,0⟩,s) else (VQ,zY true s):=rfl;rw[e]at ht ⊢;by_cases h1:s2=175
 ·subst h1;exact⟨S.p0 (by simp[Qa]),.inl A⟩
 rw[aaf h1]at ht ⊢;by_cases h2:s2=190
 ·subst h2;exact⟨S.p0 (by simp[Qa]),.inl A⟩
 rw[aaf h2]at ht;exact absurd (v8 ht).1 (by decide)
end
section
variable {b:List Int}{t s:RS}{xs:List Int}{x:zC}{w o z k r m s2:Int}{p:Nat}
inductive aA:zC->Prop
 |jmp:aA ⟨18,0,0,0,0,0,0⟩
 |call:aA ⟨21,0,0,0,0,0,0⟩
 |jcc (cc:Int):21<=cc->cc<=26->aA ⟨19,0,0,0,cc,0,0⟩
 |Bk (r:Int):zL r->aA ⟨6,r,0,0,0,0,0⟩
def zeU(b:List Int)(q:zC×RS):Prop := ∃y d,aA y/\Go.Ar.zQ d=true/\q.1 = {y with k:=d} /\ Wt b (0,false) q.2 (ze y d)
def Read(b:List Int)(far:Bool)(q:zC×RS):Prop:=if far=true then zeU b q else eT b q
theorem QW{q:zC×RS}(h:eT b q)(h6:¬q.1.op=6):Read b (decide (q.1.op=6)) q:=by
 unfold Read;rw[aaf (by simpa using h6)];exact h
theorem Dk(o s2:Int)(d:pD)(s:RS):¬(u0 o s2 d s).1.op=6:=by
 unfold u0
 repeat' split
 all_goals simp
theorem Rx(b:List Int)(o:Int)(d:pD)(s:RS):¬(singleR b o d s).1.op=6:=by
 unfold singleR VP
 repeat' split
 all_goals simp[VQ]
theorem OE(b:List Int)(o s2:Int)(d:pD)(s:RS):¬(kJ b o s2 d s).1.op=6:=by
 unfold kJ
 repeat' split
 all_goals first
  |exact Rx _ _ _ _
  |simp[VQ]
theorem uE{c:Bool}(h:(zY c s).2=false):s.2=false:=by
 have:=(v8 h).2
 rwa [this]at h
theorem dD(h:(wI b s).2.2=false):s.2=false:=(bY 4 h).1.1
theorem HD{d:pD}(ht:(u0 o s2 d s).2.2=false):s.2=false:=by
 unfold u0 at ht
 repeat' split at ht
 all_goals first
  |exact ht
  |exact uE ht
theorem L9{d:pD}(ht:(VP b d s).2.2=false):s.2=false:=by
 unfold VP at ht;simp only at ht
 repeat' split at ht
 all_goals first
  |exact dD ht
  |exact dD (uE ht)
theorem IZ{d:pD}(ht:(singleR b o d s).2.2=false):s.2=false:=by
 unfold singleR at ht
 repeat' split at ht
 all_goals first
  |exact ht
  |exact L9 ht
  |exact uE (dD ht)
  |exact uE (vO ht).1
  |exact uE ht
theorem Rf{d:pD}(ht:(kJ b o s2 d s).2.2=false):s.2=false:=by
 unfold kJ at ht
 repeat' split at ht
 all_goals first
  |exact ht
  |exact IZ ht
  |exact uE (dD ht)
  |exact uE ht
def zaR(b:List Int)(o s2:Int)(q:pD×RS):zC×RS :=
 if q.1.place=true then (⟨6,q.1.reg,0,0,0,0,q.1.k⟩,zY (decide (¬o=141)) q.2)
 else if q.1.memory=true then u0 o s2 q.1 q.2
 else kJ b o s2 q.1 q.2
theorem Dx:qh b w o s2 s=zaR b o s2 (uZ b w s):=rfl
theorem XU(ht:(qh b w o s2 s).2.2=false):(uZ b w s).2.2=false:=by
 unfold qh at ht;simp only at ht;split at ht
 ·exact uE ht
 split at ht
 ·exact HD ht
 ·exact Rf ht
theorem P0{z:Int}(hw:w=72\/w=73\/w=76\/w=77)(h0:0<=z)(h1:z<64)(z5:z%8=5)(w1:¬w%2=1):zj 72 (qT z w) 0=w/\5+qT z w%8*8=z:=by
 have r1:8<=qT z w ↔ w/4%2=1:=by unfold qT;split <;> omega
 refine⟨?_,by rw[(lz z w).1];omega⟩;unfold zj;rw[aaf (show ¬(8:Int)<=0 by decide)];split <;> omega
theorem SR(hb:xJ b)(hw:w=72\/w=73\/w=76\/w=77)(ho:¬o=15)(A:Wt b (0,false) s [w,o])(ht:(qh b w o s2 s).2.2=false):Read b (decide ((qh b w o s2 s).1.op=6)) (qh b w o s2 s):=by
 have hw':w=72\/w=72+1\/w=72+4\/w=72+5:=hw;have Q:=KM hb (XU ht);rw[Dx]at ht ⊢
 revert Q ht
 generalize uZ b w s=q;obtain⟨d,t⟩:=q;intro ht Q;unfold zaR at ht ⊢;simp only at ht Q ⊢;cases Q with
 |two z h0 h1 h3 q=>
  rw[aaf (by simp),aaf (by simp)]at ht ⊢;have B:=ck (w:=w) h0 h1;have A2:=A.app q;refine QW (zeo hb B.1 B.2 ho ?_ ht) (OE _ _ _ _ _);rw[KN h0 h1 hw' (by decide),BV h0 h1 h3];exact A2
 |mem z k h0 h1 h2 hk q=>
  rw[aaf (by simp),aai rfl]at ht ⊢;have B:=ck (w:=w) h0 h1;have A2:=A.app q;refine QW (SC B.1 B.2 hk ho ?_ ht) (Dk _ _ _ _);rw[KN h0 h1 hw' (by decide)];exact A2
 |place z k h0 h1 h5 hw1 hk q=>
  rw[aai rfl]at ht ⊢;obtain⟨p1,p2⟩:=v8 ht;have p1:o=141:=by simpa using p1
  subst p1;rw[p2];have A2:=A.app q;have l:=P0 hw h0 h1 h5 hw1;refine⟨⟨6,qT z w,0,0,0,0,0⟩,k,.Bk _ (ck h0 (by omega)).1,hk,rfl,?_⟩;have e:ze ⟨6,qT z w,0,0,0,0,0⟩ k=[zj 72 (qT z w) 0,141,5+qT z w%8*8]++yX 4 k:=rfl;rw[e,l.1,l.2];exact A2
theorem SS(hb:xJ b)(hw:w=72\/w=73\/w=76\/w=77)(A:Wt b (0,false) s [w,15,s2])(ht:(qh b w 15 s2 s).2.2=false):Read b (decide ((qh b w 15 s2 s).1.op=6)) (qh b w 15 s2 s):=by
 have hw':w=72\/w=72+1\/w=72+4\/w=72+5:=hw;have Q:=KM hb (XU ht);rw[Dx]at ht ⊢
 revert Q ht
 generalize uZ b w s=q;obtain⟨d,t⟩:=q;intro ht Q;unfold zaR at ht ⊢;simp only at ht Q ⊢;cases Q with
 |two z h0 h1 h3 q=>
  rw[aaf (by simp),aaf (by simp)]at ht ⊢;have B:=ck (w:=w) h0 h1;have A2:=A.app q;refine QW (zep B.1 B.2 ?_ ht) (OE _ _ _ _ _);rw[KN h0 h1 hw' (by decide),BV h0 h1 h3];exact A2
 |mem z k h0 h1 h2 hk q=>
  rw[aaf (by simp),aai rfl]at ht ⊢;have B:=ck (w:=w) h0 h1;have A2:=A.app q;refine QW (SD B.1 B.2 hk ?_ ht) (Dk _ _ _ _);rw[KN h0 h1 hw' (by decide)];exact A2
 |place z k h0 h1 h5 hw1 hk q=>
  rw[aai rfl]at ht;exact absurd (v8 ht).1 (by decide)
theorem N9(h:x∈dP):x∈qD b:=aa5 _ h
theorem RC(hb:xJ b)(hw:w=72\/w=73\/w=76\/w=77)(A:Wt b (0,false) s [w])(ht:(Xc b w s).2.2=false):Read b (decide ((Xc b w s).1.op=6)) (Xc b w s):=by
 unfold Xc at ht ⊢;simp only at ht ⊢;by_cases h1:184<=(zG b s).1/\(zG b s).1<=191
 ·rw[aai h1]at ht ⊢;refine QW ?_ (by simp);simp only at ht;obtain⟨q,xs,q2,q3,q4⟩:=T3 hb ht;obtain⟨p1,p2⟩:=v8 q.1;rw[p2]at q q2 q4 ht ⊢;have q1:=vO q.1
  have w1:w=72\/w=73:=by
   have:=of_decide_eq_false p1;omega
  have A1:=A.app q1;have A2:=A1.app q;have A3:=A1.app q2;have b1:=Uf A2 (i:=1) rfl;have b0:=Uf A2 (i:=0) rfl;have hl:=A2.ge
  have er:zj 72 0 ((zG b s).1-184+w%2*8)=w:=by
   unfold zj;rw[aaf (show ¬(8:Int)<=0 by decide)];split <;> omega
  have eo:184+((zG b s).1-184+w%2*8)%8=(zG b s).1:=by omega
  refine⟨?_,?_⟩
  ·refine aaK _ (aaK _ (aa5 _ ?_));unfold FQ;have:10<=b.length:=by rw[aao,xb]at hl;exact hl
   rw[aai this,b1.1,b0.1]
   have e2:(b.drop 2).take 8=xs:=by
    rw[A3.all,aa1];exact List.take_left' q3
   have e3:ZY (zG b s).1 w=(zG b s).1-184+w%2*8:=by
    unfold ZY;split <;> omega
   rw[e2,<- q4,e3];exact aar.2 rfl
  ·have e:QX ⟨2,(zG b s).1-184+w%2*8,0,0,0,0,(Ul b (zG b s).2).1⟩=[w,(zG b s).1]++yX 8 (Ul b (zG b s).2).1:=by
    unfold QX;simp only[er,eo]
   by_cases hs:Go.Ar.zQ (Ul b (zG b s).2).1=true
   ·refine .inr ⟨rfl,hs,?_⟩;show Wt b (0,false) _ (QX ⟨2,_,0,0,0,0,_⟩);rw[e];exact A2
   ·refine .inl ?_;have e0:∀r k:Int,ze ⟨2,r,0,0,0,0,k⟩ 0=if Go.Ar.zQ k=true then [zj 72 0 r,199,zW 0 r]++yX 4 k else QX ⟨2,r,0,0,0,0,k⟩:=λ_ _=>rfl;show Wt b (0,false) _ (ze ⟨2,_,0,0,0,0,_⟩ 0);rw[e0,aaf hs,e];exact A2
 rw[aaf h1]at ht ⊢
 have one:∀(y:zC) (o:Int),(zG b s).1=o->y∈dP->ze y 0=[72,o]->(zY (decide (¬w=72)) (zG b s).2).2=false->eT b (y,zY (decide (¬w=72)) (zG b s).2):=λy o ho hy hby h=>by
  obtain⟨p1,p2⟩:=v8 h;rw[p2]at h ⊢;have p1:w=72:=by simpa using p1
  subst p1;have A1:=A.app (vO h);rw[ho]at A1;exact⟨N9 hy,.inl (by show Wt b (0,false) _ (ze y 0);rw[hby];exact A1)⟩
 by_cases h2:(zG b s).1=153
 ·rw[aai h2]at ht ⊢;exact QW (one _ _ h2 (by simp[dP]) rfl ht) (by simp)
 rw[aaf h2]at ht ⊢;by_cases h3:(zG b s).1=237
 ·rw[aai h3]at ht ⊢;exact QW (one _ _ h3 (by simp[dP]) rfl ht) (by simp)
 rw[aaf h3]at ht ⊢;by_cases h4:(zG b s).1=239
 ·rw[aai h4]at ht ⊢;exact QW (one _ _ h4 (by simp[dP]) rfl ht) (by simp)
 rw[aaf h4]at ht ⊢
 have VD:∀{s:RS},(uZ b w s).2.2=false->s.2=false:=λ{s} h=>by
  have Q:=KM hb h
  revert Q
  generalize (uZ b w s).1=d;intro Q;cases Q with
  |two z h0 h1 h3 q=>exact q.1
  |mem z k h0 h1 h2 hk q=>exact q.1
  |place z k h0 h1 h5 hw1 hk q=>exact q.1
 by_cases h5:(zG b s).1=15
 ·rw[aai h5]at ht ⊢;have m:=VD (XU ht);have a2:=vO m;have A2:=(A.app (vO a2.1)).app a2;rw[h5]at A2 ht ⊢;exact SS hb hw A2 ht
 rw[aaf h5]at ht ⊢;have m:=VD (XU ht);exact SR hb hw h5 (A.app (vO m)) ht
end
section
variable {b:List Int}{t s:RS}{xs:List Int}{x:zC}{w o z k r m s2:Int}{p:Nat}
theorem BP:∀(zs:List Int) (s:RS),(Xb b zs s).2=false->Wt b s (Xb b zs s) zs
 |[],s,h=>Wt.nil h
 |z::zs,s,h=>by
  have q:=BP zs _ h;obtain⟨p1,p2⟩:=v8 q.1
  have e:Xb b (z::zs) s=Xb b zs (zG b s).2:=by
   show Xb b zs (zY _ _)=_;rw[p2]
  have p1:(zG b s).1=z:=by simpa using p1
  rw[p2]at q;have a:=vO q.1;rw[p1]at a;rw[e];exact a.app q
theorem AH(ht:(ZT z s).2.2=false):∃cc,ZT z s=(cc,s)/\21<=cc/\cc<=26/\vd cc=z:=by
 unfold ZT at ht ⊢;cases h:bF z with
 |none=>rw[h]at ht;exact absurd (v8 ht).1 (by decide)
 |some cc=>
  have:=zbP h;exact⟨cc,rfl,this⟩
theorem DG{cc base:Int}(h0:0<=z)(h1:z<256)(hb:base=144\/base=128)(h:vd cc=u8 (z-base)):base+vd cc=z:=by
 have cb:=JF cc;rw[KR]at h;omega
theorem NH(hb:xJ b)(h:Wt b s t [z]):0<=z/\z<256:=bt hb h _ (aar.2 rfl)
theorem zay(hb:xJ b)(hw:w=64\/w=64+1\/w=64+4\/w=64+5)(A:Wt b (0,false) s [w,15])(ht:(FJ b w s).2.2=false):eT b (FJ b w s):=by
 unfold FJ at ht ⊢;simp only at ht ⊢;have q:=BP _ _ ht;obtain⟨p1,p2⟩:=v8 q.1;rw[p2]at q;rw[p2];have Q:=KM hb q.1
 have c0:(ZT (u8 ((zG b s).1-144)) (zG b s).2).2.2=false:=by
  revert Q
  generalize (uZ b w (ZT (u8 ((zG b s).1-144)) (zG b s).2).2).1=d;intro Q;cases Q with
  |two z h0 h1 h3 q=>exact q.1
  |mem z k h0 h1 h2 hk q=>exact q.1
  |place z k h0 h1 h5 hw1 hk q=>exact q.1
 obtain⟨cc,e,c1,c2,c3⟩:=AH c0;rw[e]at c0 Q q p1 ⊢;simp only at Q q p1 c0 ⊢;have a:=vO c0;have zb:=NH hb a;have c4:=DG zb.1 zb.2 (.inl rfl) c3;have A1:=A.app a
 revert Q q p1
 generalize uZ b w (zG b s).2=g;obtain⟨d,t⟩:=g;intro p1 q Q;simp only at q p1 Q ⊢;cases Q with
 |two z h0 h1 h3 qq=>
  simp only[acx,aan,Classical.not_not]at p1;have er:=KN h0 h1 hw (by decide);have ez:=BV (w:=w) h0 h1 h3;have B:=ck (w:=w) h0 h1;rw[p1]at er ez;have A2:=(A1.app qq).app q;have S:KW b 3 0 (ZY z w):=VG (xs:=[w,15]++[(zG b s).1]++[z]++[zj 72 (ZY z w) (ZY z w),15,182,zW (ZY z w) (ZY z w)]) (base:=64) (by rw[er];rfl) rfl (.inr rfl) A2 (by unfold zL;decide) B.2 (.inr rfl) (by have:=(W0 0 (ZY z w)).2.1;rw[ez]at this;exact this) (by have:=(W0 0 (ZY z w)).2.2;rw[ez]at this;exact this);refine⟨S.set c1 c2,.inl ?_⟩;have e:ze ⟨17,ZY z w,0,0,cc,0,0⟩ 0=[zj 64 0 (ZY z w),15,144+vd cc,zW 0 (ZY z w),zj 72 (ZY z w) (ZY z w),15,182,zW (ZY z w) (ZY z w)]:=rfl;rw[e,er,c4,ez];exact A2
 |mem z k h0 h1 h2 hk qq=>simp at p1
 |place z k h0 h1 h5 hw1 hk qq=>simp at p1
theorem zaP(hb:xJ b)(hw:w=64\/w=64+1\/w=64+4\/w=64+5)(ho:o=136\/o=137)(A:Wt b (0,false) s [w,o]){d:pD}{t:RS}(Q:(zY (!d.memory) t).2=false->RR b w s t d)(ht:(zY (!d.memory) t).2=false) :
  eT b (⟨4,d.reg,d.rm,if o=136 then 1 else 4,0,0,d.k⟩,zY (!d.memory) t):=by
 obtain⟨p1,p2⟩:=v8 ht;have Q:=Q ht;rw[p2];cases Q with
 |two z h0 h1 h3 q=>simp at p1
 |place z k h0 h1 h5 hw1 hk q=>simp at p1
 |mem z k h0 h1 h2 hk q=>
  have B:=ck (w:=w) h0 h1;have A2:=A.app q;have er:=KN h0 h1 hw (by decide);have tp:=QU (qT z w) (ZY z w);have S:KW b 2 (qT z w) (ZY z w):=VG (xs:=[w,o]++uB (qT z w) (ZY z w) k) (base:=64) (by rw[er];rfl) (show(uB (qT z w) (ZY z w) k)[0]? = _ from TT) (.inl rfl) A2 B.1 B.2 (.inr rfl) tp.2.1 tp.2.2;have K:=Mo A2 hk (p:=2) rfl;rcases ho with rfl|rfl
  ·refine⟨S.kk K (by simp[kL,Io]),.inl ?_⟩;have e:ze ⟨4,qT z w,ZY z w,1,0,0,k⟩ 0=[zj 64 (qT z w) (ZY z w),136]++uB (qT z w) (ZY z w) k:=rfl;show Wt b (0,false) t (ze ⟨4,qT z w,ZY z w,1,0,0,k⟩ 0);rw[e,er];exact A2
  ·refine⟨S.kk K (by simp[kL,Io]),.inl ?_⟩;have e:ze ⟨4,qT z w,ZY z w,4,0,0,k⟩ 0=[zj 64 (qT z w) (ZY z w),137]++uB (qT z w) (ZY z w) k:=rfl;show Wt b (0,false) t (ze ⟨4,qT z w,ZY z w,4,0,0,k⟩ 0);rw[e,er];exact A2
theorem VD(hb:xJ b)(h:(uZ b w s).2.2=false):s.2=false:=by
 have Q:=KM hb h
 revert Q
 generalize (uZ b w s).1=d;intro Q;cases Q with
 |two z h0 h1 h3 q=>exact q.1
 |mem z k h0 h1 h2 hk q=>exact q.1
 |place z k h0 h1 h5 hw1 hk q=>exact q.1
theorem IW(hb:xJ b)(ht:(FJ b w s).2.2=false):(zG b s).2.2=false:=by
 unfold FJ at ht;simp only at ht;have q:=VD hb (uE (BP _ _ ht).1);obtain⟨cc,e,_⟩:=AH q;rw[e]at q;exact q
theorem Iw(hb:xJ b)(hw:w=64\/w=65\/w=68\/w=69)(A:Wt b (0,false) s [w])(ht:(ZE b w s).2.2=false):eT b (ZE b w s):=by
 have hw':w=64\/w=64+1\/w=64+4\/w=64+5:=hw;unfold ZE at ht ⊢;simp only at ht ⊢;by_cases h1:(zG b s).1=136\/(zG b s).1=137
 ·rw[aai h1]at ht ⊢;simp only at ht;have m:=VD hb (uE ht);have a:=vO m;exact zaP hb hw' h1 (A.app a) (λh=>KM hb (uE h)) ht
 rw[aaf h1]at ht ⊢;by_cases h2:(zG b s).1=15
 ·rw[aai h2]at ht ⊢;have m:(zG b s).2.2=false:=(vO (IW hb ht)).1;have a:=A.app (vO m);rw[h2]at a;exact zay hb hw' a ht
 rw[aaf h2]at ht;exact absurd (v8 ht).1 (by decide)
theorem RD(hb:xJ b)(ht:(Xc b w s).2.2=false):s.2=false:=by
 have nx:∀{s:RS},(zG b s).2.2=false->s.2=false:=λh=>(vO h).1;have n8:∀{s:RS},(Ul b s).2.2=false->s.2=false:=λh=>(bY 8 h).1.1;unfold Xc at ht;simp only at ht
 repeat' split at ht
 all_goals first
  |exact nx (uE (n8 ht))
  |exact nx (uE ht)
  |exact nx (nx (VD hb (XU ht)))
  |exact nx (VD hb (XU ht))
theorem Ix(hb:xJ b)(ht:(ZE b w s).2.2=false):s.2=false:=by
 have nx:∀{s:RS},(zG b s).2.2=false->s.2=false:=λh=>(vO h).1;unfold ZE at ht;simp only at ht
 repeat' split at ht
 all_goals first
  |exact nx (VD hb (uE ht))
  |exact nx (nx (IW hb ht))
  |exact nx (uE ht)
theorem iZ(hb:xJ b)(ht:(x9 b).2.2.2=false):Read b (x9 b).2.1 ((x9 b).1,(x9 b).2.2):=by
 have far:∀{q:zC×RS},zeU b q->Read b true q:=λh=>by unfold Read;rw[aai rfl];exact h
 have near:∀{q:zC×RS},eT b q->Read b false q:=λh=>by unfold Read;rw[aaf (by decide)];exact h
 unfold x9 at ht ⊢;simp only at ht ⊢;by_cases h1:(zG b (0,false)).1=233
 ·rw[aai h1]at ht ⊢;obtain⟨q,qs⟩:=VC hb ht;have a:=vO q.1;rw[h1]at a;exact far ⟨_,_,.jmp,qs,rfl,a.app q⟩
 rw[aaf h1]at ht ⊢;by_cases h2:(zG b (0,false)).1=232
 ·rw[aai h2]at ht ⊢;obtain⟨q,qs⟩:=VC hb ht;have a:=vO q.1;rw[h2]at a;exact far ⟨_,_,.call,qs,rfl,a.app q⟩
 rw[aaf h2]at ht ⊢;by_cases h3:(zG b (0,false)).1=15
 ·rw[aai h3]at ht ⊢;obtain⟨q,qs⟩:=VC hb ht;obtain⟨cc,e,c1,c2,c3⟩:=AH q.1;simp only[e]at q qs ⊢;have a2:=vO q.1;have zb:=NH hb a2;have c4:=DG zb.1 zb.2 (.inr rfl) c3;have a:=vO a2.1;rw[h3]at a;refine far ⟨⟨19,0,0,0,cc,0,0⟩,_,.jcc cc c1 c2,qs,rfl,?_⟩;have e:∀d,ze ⟨19,0,0,0,cc,0,0⟩ d=[15,128+vd cc]++yX 4 d:=λ_=>rfl;rw[e,c4];exact(a.app a2).app q
 rw[aaf h3]at ht ⊢;by_cases h4:(zG b (0,false)).1=195
 ·rw[aai h4]at ht ⊢;have a:=vO ht;rw[h4]at a;exact near ⟨N9 (by simp[dP]),.inl a⟩
 rw[aaf h4]at ht ⊢;by_cases h5:(zG b (0,false)).1=72\/(zG b (0,false)).1=73\/(zG b (0,false)).1=76\/(zG b (0,false)).1=77
 ·rw[aai h5]at ht ⊢;exact RC hb h5 (vO (RD hb ht)) ht
 rw[aaf h5]at ht ⊢;by_cases h6:(zG b (0,false)).1=64\/(zG b (0,false)).1=65\/(zG b (0,false)).1=68\/(zG b (0,false)).1=69
 ·rw[aai h6]at ht ⊢;exact near (Iw hb h6 (vO (Ix hb ht)) ht)
 rw[aaf h6]at ht;exact absurd (v8 ht).1 (by decide)
end
open Go.Ar (yn zQ)
inductive Shape:zC->Prop
 |mov (r m:Int):Shape ⟨1,r,m,0,0,0,0⟩
 |movk (r k:Int):Go.Mem.UW k->Shape ⟨2,r,0,0,0,0,k⟩
 |load (r m s k:Int):Shape ⟨3,r,m,s,0,0,k⟩
 |Eo (r m s k:Int):Shape ⟨4,r,m,s,0,0,k⟩
 |lea (r m k:Int):Shape ⟨5,r,m,0,0,0,k⟩
 |NC (r m s:Int):Shape ⟨7,r,m,s,0,0,0⟩
 |aluk (r s k:Int):Shape ⟨8,r,0,s,0,0,k⟩
 |un (r s:Int):Shape ⟨9,r,0,s,0,0,0⟩
 |ext (r m s:Int):Shape ⟨10,r,m,s,0,0,0⟩
 |shift (r s k:Int):Shape ⟨11,r,0,s,0,0,k⟩
 |shiftc (r s:Int):Shape ⟨12,r,0,s,0,0,0⟩
 |cqo:Shape ⟨13,0,0,0,0,0,0⟩
 |idiv (m:Int):Shape ⟨14,0,m,0,0,0,0⟩
 |cmp (r m:Int):Shape ⟨15,r,m,0,0,0,0⟩
 |cmpk (r k:Int):Shape ⟨16,r,0,0,0,0,k⟩
 |set (r cc:Int):Shape ⟨17,r,0,0,cc,0,0⟩
 |ret:Shape ⟨22,0,0,0,0,0,0⟩
 |enter (k:Int):Shape ⟨23,0,0,0,0,0,k⟩
 |leave (k:Int):Shape ⟨24,0,0,0,0,0,k⟩
 |inI:Shape ⟨25,0,0,0,0,0,0⟩
 |outI:Shape ⟨26,0,0,0,0,0,0⟩
theorem DP(n:Int):Go.Mem.UW (IntKind.wrap .i64 n):=by
 unfold Go.Mem.UW;simp only[IntKind.wrap,IntKind.bits,IntKind.signed];simp;split <;> omega
theorem Ff(bs:List Int):Go.Mem.UW (Vy bs)/\Go.Mem.UW (QN bs):=⟨DP _,DP _⟩
section
variable {b:List Int}{x:zC}{r m k:Int}
theorem Rg(h:x∈Qa r m):Shape x:=by
 simp only[Qa,aaS,abJ,acz]at h;rcases h with rfl|rfl|rfl|rfl|rfl|rfl|rfl|rfl|rfl|rfl
 ·exact .mov _ _
 ·exact .cmp _ _
 ·exact .idiv _
 ·exact .ext _ _ _
 ·exact .ext _ _ _
 ·exact .un _ _
 ·exact .un _ _
 ·exact .shiftc _ _
 ·exact .shiftc _ _
 ·exact .NC _ _ _
theorem TF(hk:Go.Mem.UW k)(h:x∈kL r m k):Shape x:=by
 unfold kL at h;rcases aaG.1 h with h|h
 ·rcases aaG.1 h with h|h
  ·simp only[Oi,aaS,abJ,acz]at h;rcases h with rfl|rfl|rfl|rfl|rfl|rfl
   ·exact .movk _ _ hk
   ·exact .cmpk _ _
   ·exact .lea _ _ _
   ·exact .enter _
   ·exact .leave _
   ·exact .aluk _ _ _
  ·unfold TE at h;obtain⟨s,_,rfl⟩:=aa4.1 h;exact .aluk _ _ _
 ·unfold Io at h;obtain⟨s,_,h⟩:=List.mem_flatMap.1 h;simp only[aaS,abJ,acz]at h;rcases h with rfl|rfl
  ·exact .load _ _ _ _
  ·exact .Eo _ _ _ _
theorem py{ks:List Int}(hk:∀k,k∈ks->Go.Mem.UW k)(h:x∈ch r m ks):Shape x:=by
 unfold ch at h;rcases aaG.1 h with h|h
 ·rcases aaG.1 h with h|h
  ·rcases aaG.1 h with h|h
   ·exact Rg h
   ·unfold Cb at h;obtain⟨s,_,rfl⟩:=aa4.1 h;exact .NC _ _ _
  ·unfold BQ at h;obtain⟨s,_,rfl⟩:=aa4.1 h;exact .set _ _
 ·obtain⟨k,h1,h2⟩:=List.mem_flatMap.1 h;exact TF (hk k h1) h2
theorem zc9{p:Nat}(h:k∈DS b p):Go.Mem.UW k:=by
 unfold DS at h;rcases aaG.1 h with h|h
 ·split at h
  ·rw[aar.1 h];exact(Ff _).1
  ·cases h
 ·split at h
  ·rw[aar.1 h];exact(Ff _).1
  ·cases h
theorem QM(h:x∈qD b):Shape x:=by
 unfold qD at h;rcases aaG.1 h with h|h
 ·rcases aaG.1 h with h|h
  ·rcases aaG.1 h with h|h
   ·unfold g3 at h;split at h
    ·rcases aaG.1 h with h|h
     ·exact py (λk=>zc9) h
     ·split at h
      ·exact py (λk=>zc9) h
      ·cases h
    ·cases h
   ·unfold FQ at h;split at h
    ·rw[aar.1 h];exact .movk _ _ (Ff _).2
    ·cases h
  ·unfold g4 at h;split at h
   ·simp only[aaS,abJ,acz]at h;rcases h with rfl|rfl <;> exact .shift _ _ _
   ·cases h
 ·simp only[dP,aaS,abJ,acz]at h;rcases h with rfl|rfl|rfl|rfl
  ·exact .cqo
  ·exact .ret
  ·exact .inI
  ·exact .outI
theorem zbK(S:Shape x)(h:yn x=true):X1 x \/ ∃r k,x=⟨2,r,0,0,0,0,k⟩/\zL r/\Go.Mem.UW k /\ ¬zQ k=true:=by
 unfold yn at h;simp only[aad,aaq,aan]at h;obtain⟨_,_,h3,h4,h5,h6,h7⟩:=h;unfold Go.Ar.Um at h3;unfold Go.Ar.U8 at h4;unfold Go.Ar.cy at h5;unfold Go.Ar.tailD at h7
 have R:∀{op:Int},x.op=op->Go.As.Cq op=true->zL x.r:=λe1 e2=>by
  rw[e1,e2,abu,aaq,abc,aan,aan]at h3;unfold zL;omega
 have M:∀{op:Int},x.op=op->Go.As.gz op=true->zL x.m:=λe1 e2=>by
  rw[e1,e2,abu,aaq,abc,aan,aan]at h4;unfold zL;omega
 have W:∀{op:Int},x.op=op->Go.As.Ke op=true->¬x.r=4:=λe1 e2=>by
  rw[e1,e2,abu,aaq,aan]at h5;exact h5
 have sm:∀k:Int,0<=k->k<=65536->zQ k=true:=λk a b=>by
  unfold zQ;rw[aad,aaF,aaF];omega
 cases S with
 |mov r m=>exact .inl (.mov r m (R rfl rfl) (M rfl rfl))
 |movk r k hk=>
  by_cases hs:zQ k=true
  ·exact .inl (.movk r k (R rfl rfl) hs)
  ·exact .inr ⟨r,k,rfl,R rfl rfl,hk,hs⟩
 |load r m s k=>
  simp at h7;rcases h7.1 with rfl|rfl|rfl
  ·exact .inl (.load1 r m k (R rfl rfl) (M rfl rfl) h7.2)
  ·exact .inl (.load4 r m k (R rfl rfl) (M rfl rfl) h7.2)
  ·exact .inl (.load8 r m k (R rfl rfl) (M rfl rfl) h7.2)
 |Eo r m s k=>
  simp at h7;rcases h7.1 with rfl|rfl|rfl
  ·exact .inl (.sto1 r m k (R rfl rfl) (M rfl rfl) h7.2)
  ·exact .inl (.sto4 r m k (R rfl rfl) (M rfl rfl) h7.2)
  ·exact .inl (.sto8 r m k (R rfl rfl) (M rfl rfl) h7.2)
 |lea r m k=>simp at h7;exact .inl (.lea r m k (R rfl rfl) (M rfl rfl) h7)
 |NC r m s=>
  simp[Go.As.kp]at h7;rcases h7 with rfl|rfl|rfl|rfl|rfl|rfl
  ·exact .inl (.NC r m _ (R rfl rfl) (M rfl rfl) (by decide))
  ·exact .inl (.NC r m _ (R rfl rfl) (M rfl rfl) (by decide))
  ·exact .inl (.mul r m (R rfl rfl) (M rfl rfl))
  ·exact .inl (.NC r m _ (R rfl rfl) (M rfl rfl) (by decide))
  ·exact .inl (.NC r m _ (R rfl rfl) (M rfl rfl) (by decide))
  ·exact .inl (.NC r m _ (R rfl rfl) (M rfl rfl) (by decide))
 |aluk r s k=>
  simp[Go.As.kp]at h7;have w:¬r=4:=W rfl rfl;rcases h7.1 with rfl|rfl|rfl|rfl|rfl|rfl
  ·exact .inl (.aluk r k _ (R rfl rfl) w h7.2 (by decide))
  ·exact .inl (.aluk r k _ (R rfl rfl) w h7.2 (by decide))
  ·exact .inl (.mulk r k (R rfl rfl) h7.2)
  ·exact .inl (.aluk r k _ (R rfl rfl) w h7.2 (by decide))
  ·exact .inl (.aluk r k _ (R rfl rfl) w h7.2 (by decide))
  ·exact .inl (.aluk r k _ (R rfl rfl) w h7.2 (by decide))
 |un r s=>simp at h7;exact .inl (.un r s (R rfl rfl) h7)
 |ext r m s=>
  simp at h7;rcases h7 with rfl|rfl
  ·exact .inl (.ext3 r m (R rfl rfl) (M rfl rfl))
  ·exact .inl (.ext4 r m (R rfl rfl) (M rfl rfl))
 |shift r s k=>simp at h7;exact .inl (.shift r k s (R rfl rfl) h7.2.1 (by omega) h7.1)
 |shiftc r s=>simp at h7;exact .inl (.shiftc r s (R rfl rfl) h7)
 |cqo=>exact .inl .cqo
 |idiv m=>exact .inl (.idiv m (M rfl rfl))
 |cmp r m=>exact .inl (.cmp r m (R rfl rfl) (M rfl rfl))
 |cmpk r k=>simp at h7;exact .inl (.cmpk r k (R rfl rfl) h7)
 |set r cc=>simp[Go.As.Wl]at h7;exact .inl (.set r cc (R rfl rfl) h7.1 h7.2)
 |ret=>exact .inl .ret
 |enter k=>simp at h7;exact .inl (.enter k (sm k h7.1 h7.2))
 |leave k=>simp at h7;exact .inl (.leave k (sm k h7.1 h7.2))
 |inI=>exact .inl .inI
 |outI=>exact .inl .outI
def qa(b x:List Int):Prop:=0<x.length/\x.length<=b.length/\b.take x.length=x
theorem Aq{xs:List Int}(h:qa b xs):b=xs++b.drop xs.length:=by
 conv=>lhs;rw[<- abn xs.length b,h.2.2]
def eQ(b:List Int)(x:zC):Prop:=x.op=2/\zQ x.k=true/\10<=b.length/\qa b (QX x)
theorem La(x:zC):(QX x).length=10:=by unfold QX;rw[aao,xb];rfl
theorem zaU{x:zC}(yy:x.op=2)(hs:zQ x.k=true){p q:List Int}(e:b=ze x 0++p)(e2:b=QX x++q):False:=by
 obtain⟨op,r,m,sub,cc,l,k⟩:=x;simp only at yy hs;subst yy;have e0:ze ⟨2,r,m,sub,cc,l,k⟩ 0=if zQ k=true then [zj 72 0 r,199,zW 0 r]++yX 4 k else [zj 72 0 r,184+r%8]++yX 8 k:=rfl;rw[e0,aai hs]at e;rw[e]at e2
 have:(199:Int)=184+r%8:=by
  have:=congrArg (λl=>l[1]?) e2;have h:=abl this;exact h
 omega
theorem AZ(hb:xJ b)(S:Shape x)(h:yn x=true):(qa b (ze x 0)->x9 b=(x,false,(qJ x,false)))/\(eQ b x->x9 b=(x,false,(10,false))):=by
 have N:=zbK S h
 constructor
 ·intro hbg;have e:=Aq hbg;rcases N with N|⟨r,k,rfl,R,hk,hs⟩
  ·obtain⟨n,hn⟩:=Rk N (b.drop (ze x 0).length);rw[<- e]at hn;have W:=iZ hb (by rw[hn]);rw[hn]at W;have W:eT b (x,(n,false)):=by unfold Read at W;rw[aaf (by simp)]at W;exact W
   rcases W.2 with A|⟨h1,h2,A⟩
   ·have:=A.2.2.1;have e2:n=qJ x:=by simpa [qJ] using this
    rw[hn,e2]
   ·exact(zaU h1 h2 e A.all).elim
  ·have e0:ze ⟨2,r,0,0,0,0,k⟩ 0=if zQ k=true then [zj 72 0 r,199,zW 0 r]++yX 4 k else [zj 72 0 r,184+r%8]++yX 8 k:=rfl
   have hsz:qJ ⟨2,r,0,0,0,0,k⟩=10:=by
    unfold qJ;rw[e0,aaf hs,aao,xb];rfl
   rw[hsz];rw[e0,aaf hs]at e;exact OH (rest:=b.drop _) R.1 R.2 hk e
 ·rintro⟨h1,h2,h3,h4⟩;have e:=Aq h4;cases S with
  |movk r k hk=>
   have R:zL r:=by
    rcases N with N|⟨r',k',e2,R,_⟩
    ·cases N with
     |movk r k a b=>exact a
    ·cases e2;exact R
   exact OH (rest:=b.drop _) R.1 R.2 hk e
  |_=>exact absurd h1 (by simp)
end
end Go.En
