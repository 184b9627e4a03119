import Derived.Test.YtpjjmindjodknaaGreatTK
set_option linter.unusedVariables false
set_option linter.unusedSimpArgs false
set_option maxRecDepth 100000
namespace Go.Eb
open Go.Ai Go.Proofs
open Go.Rtl (zE zA Old inc)
open Go.As (zF)
open Go.En
section
variable {lo:y4}{h:za}{L:List HP}{a b:Int}{K:aaa->za->Prop}
theorem UK(a0:0<=a/\a<16)(b0:0<=b/\b<16)(s:Sat lo h L){z:Int}(k:∀r h',zQ r=false->Sat lo h' (qj r (uK a b z)::L)->K r h') :
  zP Tryz.prog (.func (.func 58) #[] #[]) [.int .i64 a,.int .i64 b,.int .i64 z] h K:=by
 refine QJ (Aa a0.1 a0.2 b0.1 b0.2 z) ?_;rintro r h' s2;exact k r h' (vt s2) (s.join s2)
theorem oX(a0:0<=a/\a<16)(b0:0<=b/\b<16)(s:Sat lo h L)(wf:qJ h){z:Int}{hv:za}(vn:hv.next=h.next)(vg:∀b o,hv.get b=some o->h.get b=some o)(k:∀r h',qJ h'->zQ r=false->Sat lo h' (qj r (uK a b z)::L)->K r h') :
  Yy Tryz.prog 58 [.int .i64 a,.int .i64 b,.int .i64 z] hv h K:=by
 refine Va (by kernel_rfl) rfl wf s vn vg (Aa a0.1 a0.2 b0.1 b0.2 z) ?_;rintro r h2 s2 gr w2;exact k r _ w2 (vt s2) (gr _ s2)
theorem QS(a m k:Int):(uK a m k).length<=6:=by
 have:=ET a m;unfold uK;rw[aar,wQ];omega
end
section
variable {h h2:za}{b:Nat}{r m sub cc l k d:Int}{J:List aaa->za->Prop}
theorem zcy(R:zZ r)(M:zZ m)(w2:qJ h2)(s2:Sat (.of h) h2 [pt b (.cells (zF.row ⟨1,r,m,sub,cc,l,k⟩) 42)]):zB (.int .i64 1) (.pointer (some ⟨b,0,none⟩)) h2 (.int .u8 (zj 72 m r)) (Vp h (zf ⟨1,r,m,sub,cc,l,k⟩ d)) (.int .u8 (zj 72 0 r)) (.int .u8 (zj 72 r m)) (.int .i64 d) J:=by
 have g2:=s2.get;have l2:=s2.lt;unfold zB;have s3:Sat (.of h) (h2.push (.cells [.int .u8 (zj 72 m r),.int .u8 (137),.int .u8 (zX m r)] 5)) (qj (.slice (some ⟨h2.next,0,none⟩) 3 5) [zj 72 m r,137,zX m r]::[pt b _]):=wT s2 [zj 72 m r,137,zX m r] 5 (by decide);simp only[EE,zv,zk,z8,yx,m6,g2];refine YL (YI (a:=m) (b:=r) M.1 M.2 R.1 R.2 _) ?_;simp only[EE,xQ];exact fin s3 rfl
theorem TK(R:zZ r)(M:zZ m)(w2:qJ h2)(s2:Sat (.of h) h2 [pt b (.cells (zF.row ⟨3,r,m,8,cc,l,k⟩) 42)]):zB (.int .i64 3) (.pointer (some ⟨b,0,none⟩)) h2 (.int .u8 (zj 72 m r)) (Vp h (zf ⟨3,r,m,8,cc,l,k⟩ d)) (.int .u8 (zj 72 0 r)) (.int .u8 (zj 72 r m)) (.int .i64 d) J:=by
 have g2:=s2.get;have l2:=s2.lt;unfold zB;have s3:Sat (.of h) (h2.push (.cells [.int .u8 (zj 72 r m),.int .u8 (139)] 5)) (qj (.slice (some ⟨h2.next,0,none⟩) 2 4) [zj 72 r m,139]::[pt b _]):=wT s2 [zj 72 r m,139] 4 (by decide);simp only[EE,↓zt,Int.reduceEq,zv,xY,zk,vM,z8,yx,zq,zL,sw,Jy,yQ,yK,g2,l2];refine UK R M s3 λv h' rn s4=>?_;refine aX s4 (by have:=QS r m k;simp;omega) λv3 h6 rn3 s6=>?_;simp only[EE,rn3];exact fin s6 rfl
theorem TJ(R:zZ r)(M:zZ m)(w2:qJ h2)(s2:Sat (.of h) h2 [pt b (.cells (zF.row ⟨3,r,m,4,cc,l,k⟩) 42)]):zB (.int .i64 3) (.pointer (some ⟨b,0,none⟩)) h2 (.int .u8 (zj 72 m r)) (Vp h (zf ⟨3,r,m,4,cc,l,k⟩ d)) (.int .u8 (zj 72 0 r)) (.int .u8 (zj 72 r m)) (.int .i64 d) J:=by
 have g2:=s2.get;have l2:=s2.lt;unfold zB;have s3:Sat (.of h) (h2.push (.cells [.int .u8 (zj 72 r m),.int .u8 (99)] 5)) (qj (.slice (some ⟨h2.next,0,none⟩) 2 4) [zj 72 r m,99]::[pt b _]):=wT s2 [zj 72 r m,99] 4 (by decide);simp only[EE,↓zt,Int.reduceEq,zv,xY,zk,vM,z8,yx,zq,zL,su,fH,Jy,yQ,yK,g2,l2];refine UK R M s3 λv h' rn s4=>?_;refine aX s4 (by have:=QS r m k;simp;omega) λv3 h6 rn3 s6=>?_;simp only[EE,rn3];exact fin s6 rfl
theorem TI(R:zZ r)(M:zZ m)(w2:qJ h2)(s2:Sat (.of h) h2 [pt b (.cells (zF.row ⟨3,r,m,1,cc,l,k⟩) 42)]):zB (.int .i64 3) (.pointer (some ⟨b,0,none⟩)) h2 (.int .u8 (zj 72 m r)) (Vp h (zf ⟨3,r,m,1,cc,l,k⟩ d)) (.int .u8 (zj 72 0 r)) (.int .u8 (zj 72 r m)) (.int .i64 d) J:=by
 have g2:=s2.get;have l2:=s2.lt;unfold zB;have s3:Sat (.of h) (h2.push (.cells [.int .u8 (zj 72 r m),.int .u8 (15),.int .u8 (190)] 5)) (qj (.slice (some ⟨h2.next,0,none⟩) 3 5) [zj 72 r m,15,190]::[pt b _]):=wT s2 [zj 72 r m,15,190] 5 (by decide);simp only[EE,↓zt,Int.reduceEq,zv,xY,zk,xQ,z8,yx,zq,zL,fH,Jy,sy,yQ,yK,g2,l2];refine UK R M s3 λv h' rn s4=>?_;refine aX s4 (by have:=QS r m k;simp;omega) λv3 h6 rn3 s6=>?_;simp only[EE,rn3];exact fin s6 rfl
theorem TN(R:zZ r)(M:zZ m)(w2:qJ h2)(s2:Sat (.of h) h2 [pt b (.cells (zF.row ⟨4,r,m,8,cc,l,k⟩) 42)]):zB (.int .i64 4) (.pointer (some ⟨b,0,none⟩)) h2 (.int .u8 (zj 72 m r)) (Vp h (zf ⟨4,r,m,8,cc,l,k⟩ d)) (.int .u8 (zj 72 0 r)) (.int .u8 (zj 72 r m)) (.int .i64 d) J:=by
 have g2:=s2.get;have l2:=s2.lt;unfold zB;have s3:Sat (.of h) (h2.push (.cells [.int .u8 (zj 72 r m),.int .u8 (137)] 5)) (qj (.slice (some ⟨h2.next,0,none⟩) 2 4) [zj 72 r m,137]::[pt b _]):=wT s2 [zj 72 r m,137] 4 (by decide);simp only[EE,↓zt,Int.reduceEq,zv,xY,zk,vM,z8,yx,zq,zL,mz,U0,xM,yQ,yK,g2,l2];refine UK R M s3 λv h' rn s4=>?_;refine aX s4 (by have:=QS r m k;simp;omega) λv3 h6 rn3 s6=>?_;simp only[EE,rn3];exact fin s6 rfl
theorem zcA(R:zZ r)(M:zZ m)(w2:qJ h2)(s2:Sat (.of h) h2 [pt b (.cells (zF.row ⟨5,r,m,sub,cc,l,k⟩) 42)]):zB (.int .i64 5) (.pointer (some ⟨b,0,none⟩)) h2 (.int .u8 (zj 72 m r)) (Vp h (zf ⟨5,r,m,sub,cc,l,k⟩ d)) (.int .u8 (zj 72 0 r)) (.int .u8 (zj 72 r m)) (.int .i64 d) J:=by
 have g2:=s2.get;have l2:=s2.lt;unfold zB;have s3:Sat (.of h) (h2.push (.cells [.int .u8 (zj 72 r m),.int .u8 (141)] 5)) (qj (.slice (some ⟨h2.next,0,none⟩) 2 4) [zj 72 r m,141]::[pt b _]):=wT s2 [zj 72 r m,141] 4 (by decide);simp only[EE,Int.reduceEq,zv,xY,zk,vM,z8,yx,zL,m5,wh,xM,yQ,yK,g2,l2];refine UK R M s3 λv h' rn s4=>?_;refine aX s4 (by have:=QS r m k;simp;omega) λv3 h6 rn3 s6=>?_;simp only[EE,rn3];exact fin s6 rfl
theorem TM(R:zZ r)(M:zZ m)(w2:qJ h2)(s2:Sat (.of h) h2 [pt b (.cells (zF.row ⟨4,r,m,4,cc,l,k⟩) 42)]):zB (.int .i64 4) (.pointer (some ⟨b,0,none⟩)) h2 (.int .u8 (zj 72 m r)) (Vp h (zf ⟨4,r,m,4,cc,l,k⟩ d)) (.int .u8 (zj 72 0 r)) (.int .u8 (zj 72 r m)) (.int .i64 d) J:=by
 have g2:=s2.get;have l2:=s2.lt;unfold zB;have s3:Sat (.of h) (h2.push (.cells [.int .u8 (zj 64 r m),.int .u8 (137)] 5)) (qj (.slice (some ⟨h2.next,0,none⟩) 2 4) [zj 64 r m,137]::[pt b _]):=wT s2 [zj 64 r m,137] 4 (by decide);have gc:(cut (h2.push (.cells [.int .u8 (zj 64 r m),.int .u8 137] 5)) h2.next (h2.next+1)).get b=some (.cells (zF.row ⟨4,r,m,4,cc,l,k⟩) 42):=Ud (by rw[x6 l2];exact g2) l2;simp only[EE,↓zt,Int.reduceEq,zv,zk,z8,yx,zq,mw,bB,U0,xM,yQ,yK,g2];refine gK (Wb (.inr rfl) r m _) ?_;simp only[EE,zv,xY,zk,vM,z8,yx,zL,sA,gc];refine oX R M s3 (QR w2 _) rfl (λ_ _=>Ue) λv h' w rn s4=>?_;refine V8 (s4.f [1,0]) (λq hq=>?_) (xq s4 aao) (by have:=QS r m k;simp;omega) rn λa n c h5 s5=>?_
 ·simp only[Go.Rtl.rW,aaq]at hq;subst hq;exact⟨aaj _,aaZ _⟩
 ·simp only[EE];exact fin s5 rfl
theorem TL(R:zZ r)(M:zZ m)(w2:qJ h2)(s2:Sat (.of h) h2 [pt b (.cells (zF.row ⟨4,r,m,1,cc,l,k⟩) 42)]):zB (.int .i64 4) (.pointer (some ⟨b,0,none⟩)) h2 (.int .u8 (zj 72 m r)) (Vp h (zf ⟨4,r,m,1,cc,l,k⟩ d)) (.int .u8 (zj 72 0 r)) (.int .u8 (zj 72 r m)) (.int .i64 d) J:=by
 have g2:=s2.get;have l2:=s2.lt;unfold zB;have s3:Sat (.of h) (h2.push (.cells [.int .u8 (zj 64 r m),.int .u8 (136)] 5)) (qj (.slice (some ⟨h2.next,0,none⟩) 2 4) [zj 64 r m,136]::[pt b _]):=wT s2 [zj 64 r m,136] 4 (by decide);have gc:(cut (h2.push (.cells [.int .u8 (zj 64 r m),.int .u8 136] 5)) h2.next (h2.next+1)).get b=some (.cells (zF.row ⟨4,r,m,1,cc,l,k⟩) 42):=Ud (by rw[x6 l2];exact g2) l2;simp only[EE,↓zt,Int.reduceEq,zv,zk,z8,yx,zq,bB,U0,mB,xM,yQ,yK,g2];refine gK (Wb (.inr rfl) r m _) ?_;simp only[EE,zv,xY,zk,vM,z8,yx,zL,mA,gc];refine oX R M s3 (QR w2 _) rfl (λ_ _=>Ue) λv h' w rn s4=>?_;refine V8 (s4.f [1,0]) (λq hq=>?_) (xq s4 aao) (by have:=QS r m k;simp;omega) rn λa n c h5 s5=>?_
 ·simp only[Go.Rtl.rW,aaq]at hq;subst hq;exact⟨aaj _,aaZ _⟩
 ·simp only[EE];exact fin s5 rfl
theorem zcz(R:zZ r)(hk:Go.Ar.zS k=true)(w2:qJ h2)(s2:Sat (.of h) h2 [pt b (.cells (zF.row ⟨2,r,m,sub,cc,l,k⟩) 42)]):zB (.int .i64 2) (.pointer (some ⟨b,0,none⟩)) h2 (.int .u8 (zj 72 m r)) (Vp h (zf ⟨2,r,m,sub,cc,l,k⟩ d)) (.int .u8 (zj 72 0 r)) (.int .u8 (zj 72 r m)) (.int .i64 d) J:=by
 have g2:=s2.get;have l2:=s2.lt;unfold zB;have s3:Sat (.of h) (h2.push (.cells [.int .u8 (zj 72 0 r),.int .u8 (199),.int .u8 (zX 0 r)] 5)) (qj (.slice (some ⟨h2.next,0,none⟩) 3 5) [zj 72 0 r,199,zX 0 r]::[pt b _]):=wT s2 [zj 72 0 r,199,zX 0 r] 5 (by decide);have gc:(cut (h2.push (.cells [.int .u8 (zj 72 0 r),.int .u8 199,.int .u8 (zX 0 r)] 5)) h2.next (h2.next+1)).get b=some (.cells (zF.row ⟨2,r,m,sub,cc,l,k⟩) 42):=Ud (by rw[x6 l2];exact g2) l2;simp only[EE,Int.reduceEq,zv,xY,zL,yK,g2];refine YL (Go.Ar.ZA k _) ?_;rw[hk];simp only[EE,zv,zk,z8,fG,g2];refine gK (YI (a:=0) (b:=r) (show(0:Int)<=0/\(0:Int)<16 by decide).1 (show(0:Int)<=0/\(0:Int)<16 by decide).2 R.1 R.2 _) ?_;simp only[EE,zv,xY,xQ,zL,sq,gc];refine Jk s3 (QR w2 _) (n:=4) rfl (by decide) rfl (λ_ _=>Ue) λv h' w rn s4=>?_;refine V8 (s4.f [1,0]) (λq hq=>?_) (xq s4 aao) (by simp[wQ]) rn λa n c h5 s5=>?_
 ·simp only[Go.Rtl.rW,aaq]at hq;subst hq;exact⟨aaj _,aaZ _⟩
 ·simp only[EE];refine fin s5 ?_;have e:zf ⟨2,r,m,sub,cc,l,k⟩ d=if Go.Ar.zS k=true then [zj 72 0 r,199,zX 0 r]++xI 4 k else [zj 72 0 r,184+r%8]++xI 8 k:=rfl;rw[e,aai hk]
theorem zbn(R:zZ r)(hk:¬Go.Ar.zS k=true)(w2:qJ h2)(s2:Sat (.of h) h2 [pt b (.cells (zF.row ⟨2,r,m,sub,cc,l,k⟩) 42)]):zB (.int .i64 2) (.pointer (some ⟨b,0,none⟩)) h2 (.int .u8 (zj 72 m r)) (Vp h (zf ⟨2,r,m,sub,cc,l,k⟩ d)) (.int .u8 (zj 72 0 r)) (.int .u8 (zj 72 r m)) (.int .i64 d) J:=by
 have g2:=s2.get;have l2:=s2.lt;unfold zB;have hk0:Go.Ar.zS k=false:=by simpa using hk
 have q1:=iW R.1 R.2
 have q2:IntKind.wrap .u8 (IntKind.wrap .i64 (184+r%8))=184+r%8:=by
  have:∀n:Int,IntKind.wrap .u8 n=n%256:=bq;rw[this,Go.Mem.Fj (by omega) (by omega)];omega
 have s3:Sat (.of h) (h2.push (.cells [.int .u8 (zj 72 0 r),.int .u8 (184+r%8)] 5)) (qj (.slice (some ⟨h2.next,0,none⟩) 2 4) [zj 72 0 r,184+r%8]::[pt b _]):=wT s2 [zj 72 0 r,184+r%8] 4 (by decide);have gc:(cut (h2.push (.cells [.int .u8 (zj 72 0 r),.int .u8 (184+r%8)] 5)) h2.next (h2.next+1)).get b=some (.cells (zF.row ⟨2,r,m,sub,cc,l,k⟩) 42):=Ud (by rw[x6 l2];exact g2) l2;simp only[EE,Int.reduceEq,zv,xY,zL,yK,g2];refine YL (Go.Ar.ZA k _) ?_;rw[hk0];simp only[EE,zv,xY,zk,vM,cD,z8,zL,sr,fG,g2,q1,q2,gc];refine Jk s3 (QR w2 _) (n:=8) rfl (by decide) rfl (λ_ _=>Ue) λv h' w rn s4=>?_;refine V8 (s4.f [1,0]) (λq hq=>?_) (xq s4 aao) (by simp[wQ]) rn λa n c h5 s5=>?_
 ·simp only[Go.Rtl.rW,aaq]at hq;subst hq;exact⟨aaj _,aaZ _⟩
 ·simp only[EE];refine fin s5 ?_;have e:zf ⟨2,r,m,sub,cc,l,k⟩ d=if Go.Ar.zS k=true then [zj 72 0 r,199,zX 0 r]++xI 4 k else [zj 72 0 r,184+r%8]++xI 8 k:=rfl;rw[e,aag hk]
theorem zcB(R:zZ r)(w2:qJ h2)(s2:Sat (.of h) h2 [pt b (.cells (zF.row ⟨6,r,m,sub,cc,l,k⟩) 42)]):zB (.int .i64 6) (.pointer (some ⟨b,0,none⟩)) h2 (.int .u8 (zj 72 m r)) (Vp h (zf ⟨6,r,m,sub,cc,l,k⟩ d)) (.int .u8 (zj 72 0 r)) (.int .u8 (zj 72 r m)) (.int .i64 d) J:=by
 have g2:=s2.get;have l2:=s2.lt;unfold zB;have q1:=iW R.1 R.2;have q2:IntKind.wrap .u8 (IntKind.wrap .i64 (BitVec.ofInt (IntKind.bits .i64) 5 ||| BitVec.ofInt (IntKind.bits .i64) (IntKind.wrap .i64 (r%8*2^(min 3 (IntKind.bits .i64))))).toNat)=5+r%8*8:=zag (eV r).1 (eV r).2;have s3:Sat (.of h) (h2.push (.cells [.int .u8 (zj 72 r 0),.int .u8 (141),.int .u8 (5+r%8*8)] 5)) (qj (.slice (some ⟨h2.next,0,none⟩) 3 5) [zj 72 r 0,141,5+r%8*8]::[pt b _]):=wT s2 [zj 72 r 0,141,5+r%8*8] 5 (by decide);have gc:(cut (h2.push (.cells [.int .u8 (zj 72 r 0),.int .u8 141,.int .u8 (5+r%8*8)] 5)) h2.next (h2.next+1)).get b=some (.cells (zF.row ⟨6,r,m,sub,cc,l,k⟩) 42):=Ud (by rw[x6 l2];exact g2) l2;simp only[EE,Int.reduceEq,zv,zk,z8,mZ,wL,wh,xM,yQ,yK,g2];refine gK (Wb (.inl rfl) r 0 _) ?_;simp only[EE,Int.reduceLE,Int.reduceToNat,zv,zk,xQ,cD,z8,mC,g2,q1,q2];refine Jk s3 (QR w2 _) (n:=4) rfl (by decide) rfl (λ_ _=>Ue) λv h' w rn s4=>?_;refine V8 (s4.f [1,0]) (λq hq=>?_) (xq s4 aao) (by simp[wQ]) rn λa n c h5 s5=>?_
 ·simp only[Go.Rtl.rW,aaq]at hq;subst hq;exact⟨aaj _,aaZ _⟩
 ·simp only[EE];exact fin s5 rfl
theorem zbo(R:zZ r)(M:zZ m)(w2:qJ h2)(s2:Sat (.of h) h2 [pt b (.cells (zF.row ⟨7,r,m,13,cc,l,k⟩) 42)]):zB (.int .i64 7) (.pointer (some ⟨b,0,none⟩)) h2 (.int .u8 (zj 72 m r)) (Vp h (zf ⟨7,r,m,13,cc,l,k⟩ d)) (.int .u8 (zj 72 0 r)) (.int .u8 (zj 72 r m)) (.int .i64 d) J:=by
 have g2:=s2.get;have l2:=s2.lt;unfold zB;have s3:Sat (.of h) (h2.push (.cells [.int .u8 (zj 72 r m),.int .u8 (15),.int .u8 (175),.int .u8 (zX r m)] 5)) (qj (.slice (some ⟨h2.next,0,none⟩) 4 6) [zj 72 r m,15,175,zX r m]::[pt b _]):=wT s2 [zj 72 r m,15,175,zX r m] 6 (by decide);simp only[EE,Int.reduceEq,zv,zk,z8,yx,zq,mE,bJ,wP,wL,wh,xM,yQ,yK,g2];refine YL (YI (a:=r) (b:=m) R.1 R.2 M.1 M.2 _) ?_;simp only[EE,ZU,mD];exact fin s3 rfl
theorem zcC(R:zZ r)(M:zZ m)(hs:¬sub=13)(w2:qJ h2)(s2:Sat (.of h) h2 [pt b (.cells (zF.row ⟨7,r,m,sub,cc,l,k⟩) 42)]):zB (.int .i64 7) (.pointer (some ⟨b,0,none⟩)) h2 (.int .u8 (zj 72 m r)) (Vp h (zf ⟨7,r,m,sub,cc,l,k⟩ d)) (.int .u8 (zj 72 0 r)) (.int .u8 (zj 72 r m)) (.int .i64 d) J:=by
 have g2:=s2.get;have l2:=s2.lt;unfold zB;have s3:Sat (.of h) (h2.push (.cells [.int .u8 (zj 72 m r),.int .u8 (Go.En.kj sub),.int .u8 (zX m r)] 5)) (qj (.slice (some ⟨h2.next,0,none⟩) 3 5) [zj 72 m r,Go.En.kj sub,zX m r]::[pt b _]):=wT s2 [zj 72 m r,Go.En.kj sub,zX m r] 5 (by decide);simp only[EE,Int.reduceEq,zv,zk,zq,bJ,wP,wL,wh,xM,yQ,yK,g2,hs];refine gK (OM sub _) ?_;simp only[EE,zv,zk,z8,yx,mF,g2];refine gK (YI (a:=m) (b:=r) M.1 M.2 R.1 R.2 _) ?_;simp only[EE,xQ];refine fin s3 ?_;have e:zf ⟨7,r,m,sub,cc,l,k⟩ d=if sub=13 then [zj 72 r m,15,175,zX r m] else [zj 72 m r,Go.En.kj sub,zX m r]:=rfl;rw[e,aag hs]
theorem zbp(R:zZ r)(w2:qJ h2)(s2:Sat (.of h) h2 [pt b (.cells (zF.row ⟨8,r,m,13,cc,l,k⟩) 42)]):zB (.int .i64 8) (.pointer (some ⟨b,0,none⟩)) h2 (.int .u8 (zj 72 m r)) (Vp h (zf ⟨8,r,m,13,cc,l,k⟩ d)) (.int .u8 (zj 72 0 r)) (.int .u8 (zj 72 r m)) (.int .i64 d) J:=by
 have g2:=s2.get;have l2:=s2.lt;unfold zB;have s3:Sat (.of h) (h2.push (.cells [.int .u8 (zj 72 r r),.int .u8 (105),.int .u8 (zX r r)] 5)) (qj (.slice (some ⟨h2.next,0,none⟩) 3 5) [zj 72 r r,105,zX r r]::[pt b _]):=wT s2 [zj 72 r r,105,zX r r] 5 (by decide);have gc:(cut (h2.push (.cells [.int .u8 (zj 72 r r),.int .u8 105,.int .u8 (zX r r)] 5)) h2.next (h2.next+1)).get b=some (.cells (zF.row ⟨8,r,m,13,cc,l,k⟩) 42):=Ud (by rw[x6 l2];exact g2) l2;simp only[EE,Int.reduceEq,zv,zk,z8,zq,mI,bI,vw,wP,wL,wh,xM,yQ,yK,g2];refine gK (Wb (.inl rfl) r r _) ?_;simp only[EE,zv,zk,z8,mH,g2];refine gK (YI (a:=r) (b:=r) R.1 R.2 R.1 R.2 _) ?_;simp only[EE,zv,xY,xQ,zL,mG,gc];refine Jk s3 (QR w2 _) (n:=4) rfl (by decide) rfl (λ_ _=>Ue) λv h' w rn s4=>?_;refine V8 (s4.f [1,0]) (λq hq=>?_) (xq s4 aao) (by simp[wQ]) rn λa n c h5 s5=>?_
 ·simp only[Go.Rtl.rW,aaq]at hq;subst hq;exact⟨aaj _,aaZ _⟩
 ·simp only[EE];exact fin s5 rfl
theorem zcD(R:zZ r)(hs:sub=11\/sub=12\/sub=16\/sub=17\/sub=18)(w2:qJ h2)(s2:Sat (.of h) h2 [pt b (.cells (zF.row ⟨8,r,m,sub,cc,l,k⟩) 42)]):zB (.int .i64 8) (.pointer (some ⟨b,0,none⟩)) h2 (.int .u8 (zj 72 m r)) (Vp h (zf ⟨8,r,m,sub,cc,l,k⟩ d)) (.int .u8 (zj 72 0 r)) (.int .u8 (zj 72 r m)) (.int .i64 d) J:=by
 have g2:=s2.get;have l2:=s2.lt;unfold zB;have hs0:¬sub=13:=by omega
 have q:=NT hs;have s3:Sat (.of h) (h2.push (.cells [.int .u8 (zj 72 0 r),.int .u8 (129),.int .u8 (zX (Z2 sub) r)] 5)) (qj (.slice (some ⟨h2.next,0,none⟩) 3 5) [zj 72 0 r,129,zX (Z2 sub) r]::[pt b _]):=wT s2 [zj 72 0 r,129,zX (Z2 sub) r] 5 (by decide);have gc:(cut (h2.push (.cells [.int .u8 (zj 72 0 r),.int .u8 129,.int .u8 (zX (Z2 sub) r)] 5)) h2.next (h2.next+1)).get b=some (.cells (zF.row ⟨8,r,m,sub,cc,l,k⟩) 42):=Ud (by rw[x6 l2];exact g2) l2;simp only[EE,Int.reduceEq,zv,zk,zq,mK,bI,vw,wP,wL,wh,xM,yQ,yK,g2,hs0];refine gK (PM sub _) ?_;simp only[EE,zv,zk,z8,g2];refine gK (YI (a:=Z2 sub) (b:=r) q.2.2.1 (by omega) R.1 R.2 _) ?_;simp only[EE,zv,xY,xQ,zL,mJ,gc];refine Jk s3 (QR w2 _) (n:=4) rfl (by decide) rfl (λ_ _=>Ue) λv h' w rn s4=>?_;refine V8 (s4.f [1,0]) (λq hq=>?_) (xq s4 aao) (by simp[wQ]) rn λa n c h5 s5=>?_
 ·simp only[Go.Rtl.rW,aaq]at hq;subst hq;exact⟨aaj _,aaZ _⟩
 ·simp only[EE];refine fin s5 ?_;have e:zf ⟨8,r,m,sub,cc,l,k⟩ d=if sub=13 then [zj 72 r r,105,zX r r]++xI 4 k else [zj 72 0 r,129,zX (Z2 sub) r]++xI 4 k:=rfl;rw[e,aag hs0]
theorem TQ(R:zZ r)(w2:qJ h2)(s2:Sat (.of h) h2 [pt b (.cells (zF.row ⟨9,r,m,2,cc,l,k⟩) 42)]):zB (.int .i64 9) (.pointer (some ⟨b,0,none⟩)) h2 (.int .u8 (zj 72 m r)) (Vp h (zf ⟨9,r,m,2,cc,l,k⟩ d)) (.int .u8 (zj 72 0 r)) (.int .u8 (zj 72 r m)) (.int .i64 d) J:=by
 have g2:=s2.get;have l2:=s2.lt;unfold zB;have s3:Sat (.of h) (h2.push (.cells [.int .u8 (zj 72 0 r),.int .u8 (247),.int .u8 (zX 2 r)] 5)) (qj (.slice (some ⟨h2.next,0,none⟩) 3 5) [zj 72 0 r,247,zX 2 r]::[pt b _]):=wT s2 [zj 72 0 r,247,zX 2 r] 5 (by decide);simp only[EE,Int.reduceEq,zv,zk,z8,zq,mL,bH,vV,vw,wP,wL,wh,xM,yQ,yK,g2];refine YL (YI (a:=2) (b:=r) (show(0:Int)<=2/\(2:Int)<16 by decide).1 (show(0:Int)<=2/\(2:Int)<16 by decide).2 R.1 R.2 _) ?_;simp only[EE,xQ];exact fin s3 rfl
theorem TP(R:zZ r)(w2:qJ h2)(s2:Sat (.of h) h2 [pt b (.cells (zF.row ⟨9,r,m,1,cc,l,k⟩) 42)]):zB (.int .i64 9) (.pointer (some ⟨b,0,none⟩)) h2 (.int .u8 (zj 72 m r)) (Vp h (zf ⟨9,r,m,1,cc,l,k⟩ d)) (.int .u8 (zj 72 0 r)) (.int .u8 (zj 72 r m)) (.int .i64 d) J:=by
 have g2:=s2.get;have l2:=s2.lt;unfold zB;have s3:Sat (.of h) (h2.push (.cells [.int .u8 (zj 72 0 r),.int .u8 (247),.int .u8 (zX 3 r)] 5)) (qj (.slice (some ⟨h2.next,0,none⟩) 3 5) [zj 72 0 r,247,zX 3 r]::[pt b _]):=wT s2 [zj 72 0 r,247,zX 3 r] 5 (by decide);simp only[EE,Int.reduceEq,zv,zk,z8,zq,mM,bH,vV,vw,wP,wL,wh,xM,yQ,yK,g2];refine YL (YI (a:=3) (b:=r) (show(0:Int)<=3/\(3:Int)<16 by decide).1 (show(0:Int)<=3/\(3:Int)<16 by decide).2 R.1 R.2 _) ?_;simp only[EE,xQ];exact fin s3 rfl
theorem PG(R:zZ r)(M:zZ m)(w2:qJ h2)(s2:Sat (.of h) h2 [pt b (.cells (zF.row ⟨10,r,m,3,cc,l,k⟩) 42)]):zB (.int .i64 10) (.pointer (some ⟨b,0,none⟩)) h2 (.int .u8 (zj 72 m r)) (Vp h (zf ⟨10,r,m,3,cc,l,k⟩ d)) (.int .u8 (zj 72 0 r)) (.int .u8 (zj 72 r m)) (.int .i64 d) J:=by
 have g2:=s2.get;have l2:=s2.lt;unfold zB;have s3:Sat (.of h) (h2.push (.cells [.int .u8 (zj 72 r m),.int .u8 (15),.int .u8 (190),.int .u8 (zX r m)] 5)) (qj (.slice (some ⟨h2.next,0,none⟩) 4 6) [zj 72 r m,15,190,zX r m]::[pt b _]):=wT s2 [zj 72 r m,15,190,zX r m] 6 (by decide);simp only[EE,Int.reduceEq,zv,zk,z8,yx,zq,mO,bG,uQ,vV,vw,wP,wL,wh,xM,yQ,yK,g2];refine YL (YI (a:=r) (b:=m) R.1 R.2 M.1 M.2 _) ?_;simp only[EE,ZU,mN];exact fin s3 rfl
theorem PH(R:zZ r)(M:zZ m)(hs:¬sub=3)(w2:qJ h2)(s2:Sat (.of h) h2 [pt b (.cells (zF.row ⟨10,r,m,sub,cc,l,k⟩) 42)]):zB (.int .i64 10) (.pointer (some ⟨b,0,none⟩)) h2 (.int .u8 (zj 72 m r)) (Vp h (zf ⟨10,r,m,sub,cc,l,k⟩ d)) (.int .u8 (zj 72 0 r)) (.int .u8 (zj 72 r m)) (.int .i64 d) J:=by
 have g2:=s2.get;have l2:=s2.lt;unfold zB;have s3:Sat (.of h) (h2.push (.cells [.int .u8 (zj 72 r m),.int .u8 (99),.int .u8 (zX r m)] 5)) (qj (.slice (some ⟨h2.next,0,none⟩) 3 5) [zj 72 r m,99,zX r m]::[pt b _]):=wT s2 [zj 72 r m,99,zX r m] 5 (by decide);simp only[EE,Int.reduceEq,zv,zk,z8,yx,zq,mP,bG,uQ,vV,vw,wP,wL,wh,xM,yQ,yK,g2,hs];refine YL (YI (a:=r) (b:=m) R.1 R.2 M.1 M.2 _) ?_;simp only[EE,xQ];refine fin s3 ?_;have e:zf ⟨10,r,m,sub,cc,l,k⟩ d=if sub=3 then [zj 72 r m,15,190,zX r m] else [zj 72 r m,99,zX r m]:=rfl;rw[e,aag hs]
theorem TE(R:zZ r)(w2:qJ h2)(s2:Sat (.of h) h2 [pt b (.cells (zF.row ⟨11,r,m,19,cc,l,k⟩) 42)]):zB (.int .i64 11) (.pointer (some ⟨b,0,none⟩)) h2 (.int .u8 (zj 72 m r)) (Vp h (zf ⟨11,r,m,19,cc,l,k⟩ d)) (.int .u8 (zj 72 0 r)) (.int .u8 (zj 72 r m)) (.int .i64 d) J:=by
 have g2:=s2.get;have l2:=s2.lt;unfold zB;have s3:Sat (.of h) (h2.push (.cells [.int .u8 (zj 72 0 r),.int .u8 (193),.int .u8 (zX 4 r),.int .u8 (IntKind.wrap .u8 k)] 5)) (qj (.slice (some ⟨h2.next,0,none⟩) 4 6) [zj 72 0 r,193,zX 4 r,IntKind.wrap .u8 k]::[pt b _]):=wT s2 [zj 72 0 r,193,zX 4 r,IntKind.wrap .u8 k] 6 (by decide);simp only[EE,Int.reduceEq,zv,zk,zq,bF,qD,uQ,vV,vw,wP,wL,wh,xM,yQ,yK,g2];refine gK (mi (s:=19) (by decide) _) ?_;simp only[EE,zv,zk,z8,g2];refine gK (YI (a:=qI 19) (b:=r) (show(0:Int)<=qI 19/\(qI 19:Int)<16 by decide).1 (show(0:Int)<=qI 19/\(qI 19:Int)<16 by decide).2 R.1 R.2 _) ?_;simp only[EE,zv,xY,ZU,FT,zL,bC,g2];exact fin s3 rfl
theorem TG(R:zZ r)(w2:qJ h2)(s2:Sat (.of h) h2 [pt b (.cells (zF.row ⟨12,r,m,19,cc,l,k⟩) 42)]):zB (.int .i64 12) (.pointer (some ⟨b,0,none⟩)) h2 (.int .u8 (zj 72 m r)) (Vp h (zf ⟨12,r,m,19,cc,l,k⟩ d)) (.int .u8 (zj 72 0 r)) (.int .u8 (zj 72 r m)) (.int .i64 d) J:=by
 have g2:=s2.get;have l2:=s2.lt;unfold zB;have s3:Sat (.of h) (h2.push (.cells [.int .u8 (zj 72 0 r),.int .u8 (211),.int .u8 (zX 4 r)] 5)) (qj (.slice (some ⟨h2.next,0,none⟩) 3 5) [zj 72 0 r,211,zX 4 r]::[pt b _]):=wT s2 [zj 72 0 r,211,zX 4 r] 5 (by decide);simp only[EE,Int.reduceEq,zv,zk,zq,jn,qD,uQ,vV,vw,wP,wL,wh,xM,yQ,yK,g2];refine gK (mi (s:=19) (by decide) _) ?_;simp only[EE,zv,zk,z8,bD,g2];refine gK (YI (a:=qI 19) (b:=r) (show(0:Int)<=qI 19/\(qI 19:Int)<16 by decide).1 (show(0:Int)<=qI 19/\(qI 19:Int)<16 by decide).2 R.1 R.2 _) ?_;simp only[EE,xQ];exact fin s3 rfl
theorem TF(R:zZ r)(w2:qJ h2)(s2:Sat (.of h) h2 [pt b (.cells (zF.row ⟨11,r,m,20,cc,l,k⟩) 42)]):zB (.int .i64 11) (.pointer (some ⟨b,0,none⟩)) h2 (.int .u8 (zj 72 m r)) (Vp h (zf ⟨11,r,m,20,cc,l,k⟩ d)) (.int .u8 (zj 72 0 r)) (.int .u8 (zj 72 r m)) (.int .i64 d) J:=by
 have g2:=s2.get;have l2:=s2.lt;unfold zB;have s3:Sat (.of h) (h2.push (.cells [.int .u8 (zj 72 0 r),.int .u8 (193),.int .u8 (zX 7 r),.int .u8 (IntKind.wrap .u8 k)] 5)) (qj (.slice (some ⟨h2.next,0,none⟩) 4 6) [zj 72 0 r,193,zX 7 r,IntKind.wrap .u8 k]::[pt b _]):=wT s2 [zj 72 0 r,193,zX 7 r,IntKind.wrap .u8 k] 6 (by decide);simp only[EE,Int.reduceEq,zv,zk,zq,bF,qD,uQ,vV,vw,wP,wL,wh,xM,yQ,yK,g2];refine gK (mi (s:=20) (by decide) _) ?_;simp only[EE,zv,zk,z8,g2];refine gK (YI (a:=qI 20) (b:=r) (show(0:Int)<=qI 20/\(qI 20:Int)<16 by decide).1 (show(0:Int)<=qI 20/\(qI 20:Int)<16 by decide).2 R.1 R.2 _) ?_;simp only[EE,zv,xY,ZU,FT,zL,bC,g2];exact fin s3 rfl
theorem TH(R:zZ r)(w2:qJ h2)(s2:Sat (.of h) h2 [pt b (.cells (zF.row ⟨12,r,m,20,cc,l,k⟩) 42)]):zB (.int .i64 12) (.pointer (some ⟨b,0,none⟩)) h2 (.int .u8 (zj 72 m r)) (Vp h (zf ⟨12,r,m,20,cc,l,k⟩ d)) (.int .u8 (zj 72 0 r)) (.int .u8 (zj 72 r m)) (.int .i64 d) J:=by
 have g2:=s2.get;have l2:=s2.lt;unfold zB;have s3:Sat (.of h) (h2.push (.cells [.int .u8 (zj 72 0 r),.int .u8 (211),.int .u8 (zX 7 r)] 5)) (qj (.slice (some ⟨h2.next,0,none⟩) 3 5) [zj 72 0 r,211,zX 7 r]::[pt b _]):=wT s2 [zj 72 0 r,211,zX 7 r] 5 (by decide);simp only[EE,Int.reduceEq,zv,zk,zq,jn,qD,uQ,vV,vw,wP,wL,wh,xM,yQ,yK,g2];refine gK (mi (s:=20) (by decide) _) ?_;simp only[EE,zv,zk,z8,bD,g2];refine gK (YI (a:=qI 20) (b:=r) (show(0:Int)<=qI 20/\(qI 20:Int)<16 by decide).1 (show(0:Int)<=qI 20/\(qI 20:Int)<16 by decide).2 R.1 R.2 _) ?_;simp only[EE,xQ];exact fin s3 rfl
theorem zbi  (w2:qJ h2)(s2:Sat (.of h) h2 [pt b (.cells (zF.row ⟨13,r,m,sub,cc,l,k⟩) 42)]):zB (.int .i64 13) (.pointer (some ⟨b,0,none⟩)) h2 (.int .u8 (zj 72 m r)) (Vp h (zf ⟨13,r,m,sub,cc,l,k⟩ d)) (.int .u8 (zj 72 0 r)) (.int .u8 (zj 72 r m)) (.int .i64 d) J:=by
 have g2:=s2.get;have l2:=s2.lt;unfold zB;have s3:Sat (.of h) (h2.push (.cells [.int .u8 72,.int .u8 153] 5)) (qj (.slice (some ⟨h2.next,0,none⟩) 2 4) [72,153]::[pt b _]):=wT s2 [72,153] 4 (by decide);simp only[EE,Int.reduceEq,vM,ZY,jn,qD,uQ,vV,vw,wP,wL,wh,xM,yQ,yK];exact fin s3 rfl
theorem zbj(M:zZ m)(w2:qJ h2)(s2:Sat (.of h) h2 [pt b (.cells (zF.row ⟨14,r,m,sub,cc,l,k⟩) 42)]):zB (.int .i64 14) (.pointer (some ⟨b,0,none⟩)) h2 (.int .u8 (zj 72 m r)) (Vp h (zf ⟨14,r,m,sub,cc,l,k⟩ d)) (.int .u8 (zj 72 0 r)) (.int .u8 (zj 72 r m)) (.int .i64 d) J:=by
 have g2:=s2.get;have l2:=s2.lt;unfold zB;have s3:Sat (.of h) (h2.push (.cells [.int .u8 (zj 72 0 m),.int .u8 (247),.int .u8 (zX 7 m)] 5)) (qj (.slice (some ⟨h2.next,0,none⟩) 3 5) [zj 72 0 m,247,zX 7 m]::[pt b _]):=wT s2 [zj 72 0 m,247,zX 7 m] 5 (by decide);simp only[EE,Int.reduceEq,zv,zk,yx,mY,YY,ZY,jn,qD,uQ,vV,vw,wP,wL,wh,xM,yQ,yK,g2];refine gK (Wb (.inl rfl) 0 m _) ?_;simp only[EE,zv,zk,yx,mQ,g2];refine gK (YI (a:=7) (b:=m) (show(0:Int)<=7/\(7:Int)<16 by decide).1 (show(0:Int)<=7/\(7:Int)<16 by decide).2 M.1 M.2 _) ?_;simp only[EE,xQ];exact fin s3 rfl
theorem zbk(R:zZ r)(M:zZ m)(w2:qJ h2)(s2:Sat (.of h) h2 [pt b (.cells (zF.row ⟨15,r,m,sub,cc,l,k⟩) 42)]):zB (.int .i64 15) (.pointer (some ⟨b,0,none⟩)) h2 (.int .u8 (zj 72 m r)) (Vp h (zf ⟨15,r,m,sub,cc,l,k⟩ d)) (.int .u8 (zj 72 0 r)) (.int .u8 (zj 72 r m)) (.int .i64 d) J:=by
 have g2:=s2.get;have l2:=s2.lt;unfold zB;have s3:Sat (.of h) (h2.push (.cells [.int .u8 (zj 72 m r),.int .u8 (57),.int .u8 (zX m r)] 5)) (qj (.slice (some ⟨h2.next,0,none⟩) 3 5) [zj 72 m r,57,zX m r]::[pt b _]):=wT s2 [zj 72 m r,57,zX m r] 5 (by decide);simp only[EE,Int.reduceEq,zv,zk,z8,yx,mX,WQ,YY,ZY,jn,qD,uQ,vV,vw,wP,wL,wh,xM,yQ,yK,g2];refine YL (YI (a:=m) (b:=r) M.1 M.2 R.1 R.2 _) ?_;simp only[EE,xQ];exact fin s3 rfl
theorem zbl(R:zZ r)(w2:qJ h2)(s2:Sat (.of h) h2 [pt b (.cells (zF.row ⟨16,r,m,sub,cc,l,k⟩) 42)]):zB (.int .i64 16) (.pointer (some ⟨b,0,none⟩)) h2 (.int .u8 (zj 72 m r)) (Vp h (zf ⟨16,r,m,sub,cc,l,k⟩ d)) (.int .u8 (zj 72 0 r)) (.int .u8 (zj 72 r m)) (.int .i64 d) J:=by
 have g2:=s2.get;have l2:=s2.lt;unfold zB;have s3:Sat (.of h) (h2.push (.cells [.int .u8 (zj 72 0 r),.int .u8 (129),.int .u8 (zX 7 r)] 5)) (qj (.slice (some ⟨h2.next,0,none⟩) 3 5) [zj 72 0 r,129,zX 7 r]::[pt b _]):=wT s2 [zj 72 0 r,129,zX 7 r] 5 (by decide);have gc:(cut (h2.push (.cells [.int .u8 (zj 72 0 r),.int .u8 129,.int .u8 (zX 7 r)] 5)) h2.next (h2.next+1)).get b=some (.cells (zF.row ⟨16,r,m,sub,cc,l,k⟩) 42):=Ud (by rw[x6 l2];exact g2) l2;simp only[EE,Int.reduceEq,zv,zk,z8,U1,WQ,YY,ZY,jn,qD,uQ,vV,vw,wP,wL,wh,xM,yQ,yK,g2];refine gK (YI (a:=7) (b:=r) (show(0:Int)<=7/\(7:Int)<16 by decide).1 (show(0:Int)<=7/\(7:Int)<16 by decide).2 R.1 R.2 _) ?_;simp only[EE,zv,xY,xQ,zL,mR,gc];refine Jk s3 (QR w2 _) (n:=4) rfl (by decide) rfl (λ_ _=>Ue) λv h' w rn s4=>?_;refine V8 (s4.f [1,0]) (λq hq=>?_) (xq s4 aao) (by simp[wQ]) rn λa n c h5 s5=>?_
 ·simp only[Go.Rtl.rW,aaq]at hq;subst hq;exact⟨aaj _,aaZ _⟩
 ·simp only[EE];exact fin s5 rfl
theorem zbm(R:zZ r)(c0:21<=cc)(c1:cc<=26)(w2:qJ h2)(s2:Sat (.of h) h2 [pt b (.cells (zF.row ⟨17,r,m,sub,cc,l,k⟩) 42)]):zB (.int .i64 17) (.pointer (some ⟨b,0,none⟩)) h2 (.int .u8 (zj 72 m r)) (Vp h (zf ⟨17,r,m,sub,cc,l,k⟩ d)) (.int .u8 (zj 72 0 r)) (.int .u8 (zj 72 r m)) (.int .i64 d) J:=by
 have g2:=s2.get;have l2:=s2.lt;unfold zB;have cb:=eF cc
 have q:IntKind.wrap .u8 (144+vA cc)=144+vA cc:=by
  have:∀n:Int,IntKind.wrap .u8 n=n%256:=bq;rw[this];omega
 have s3:Sat (.of h) (h2.push (.cells [.int .u8 (zj 64 0 r),.int .u8 (15),.int .u8 (144+vA cc),.int .u8 (zX 0 r),.int .u8 (zj 72 r r),.int .u8 (15),.int .u8 (182),.int .u8 (zX r r)] 5)) (qj (.slice (some ⟨h2.next,0,none⟩) 8 10) [zj 64 0 r,15,144+vA cc,zX 0 r,zj 72 r r,15,182,zX r r]::[pt b _]):=wT s2 [zj 64 0 r,15,144+vA cc,zX 0 r,zj 72 r r,15,182,zX r r] 10 (by decide);simp only[EE,Int.reduceEq,zv,zk,z8,mW,bE,U1,WQ,YY,ZY,jn,qD,uQ,vV,vw,wP,wL,wh,xM,yQ,yK,g2];refine gK (Wb (.inr rfl) 0 r _) ?_;simp only[EE,zv,zk,aa,g2];refine gK (NO c0 c1 _) ?_;simp only[EE,zv,zk,z8,mV,g2,q];refine gK (YI (a:=0) (b:=r) (show(0:Int)<=0/\(0:Int)<16 by decide).1 (show(0:Int)<=0/\(0:Int)<16 by decide).2 R.1 R.2 _) ?_;simp only[EE,zv,zk,z8,mU,g2];refine gK (Wb (.inl rfl) r r _) ?_;simp only[EE,zv,zk,z8,mT,g2];refine gK (YI (a:=r) (b:=r) R.1 R.2 R.1 R.2 _) ?_;simp only[EE,UH,mS];exact fin s3 rfl
end
section
variable {h h2:za}{b:Nat}{r m sub cc l k d:Int}{J:List aaa->za->Prop}
theorem RY  (s2:Sat (.of h) h2 [pt b (.cells (zF.row ⟨18,r,m,sub,cc,l,k⟩) 42)]):vD (.int .i64 18) h2 (.int .i64 d) (Vp h (zf ⟨18,r,m,sub,cc,l,k⟩ d)) (.pointer (some ⟨b,0,none⟩)) J:=by
 have g2:=s2.get;have l2:=s2.lt;unfold vD;have s3:Sat (.of h) (h2.push (.cells [.int .u8 233] 5)) (qj (.slice (some ⟨h2.next,0,none⟩) 1 3) [233]::[pt b _]):=wT s2 [233] 3 (by decide);simp only[EE,Xh,tI];refine Ey s3 (n:=4) rfl (by decide) λv h' rn s4=>?_;refine aX s4 (by simp[wQ]) λv3 h6 rn3 s6=>?_;simp only[EE,rn3];exact fin s6 rfl
theorem R2(c0:21<=cc)(c1:cc<=26)(s2:Sat (.of h) h2 [pt b (.cells (zF.row ⟨19,r,m,sub,cc,l,k⟩) 42)]):vD (.int .i64 19) h2 (.int .i64 d) (Vp h (zf ⟨19,r,m,sub,cc,l,k⟩ d)) (.pointer (some ⟨b,0,none⟩)) J:=by
 have g2:=s2.get;have l2:=s2.lt;unfold vD;have cb:=eF cc
 have q:IntKind.wrap .u8 (128+vA cc)=128+vA cc:=by
  have:∀n:Int,IntKind.wrap .u8 n=n%256:=bq;rw[this];omega
 have s3:Sat (.of h) (h2.push (.cells [.int .u8 (15),.int .u8 (128+vA cc)] 5)) (qj (.slice (some ⟨h2.next,0,none⟩) 2 4) [15,128+vA cc]::[pt b _]):=wT s2 [15,128+vA cc] 4 (by decide);simp only[EE,Int.reduceEq,zv,zk,aa,Zx,g2];refine YL (NO c0 c1 _) ?_;simp only[EE,vM,Di,q];refine Ey s3 (n:=4) rfl (by decide) λv h' rn s4=>?_;refine aX s4 (by simp[wQ]) λv3 h6 rn3 s6=>?_;simp only[EE,rn3];exact fin s6 rfl
theorem R4  (s2:Sat (.of h) h2 [pt b (.cells (zF.row ⟨21,r,m,sub,cc,l,k⟩) 42)]):vD (.int .i64 21) h2 (.int .i64 d) (Vp h (zf ⟨21,r,m,sub,cc,l,k⟩ d)) (.pointer (some ⟨b,0,none⟩)) J:=by
 have g2:=s2.get;have l2:=s2.lt;unfold vD;have s3:Sat (.of h) (h2.push (.cells [.int .u8 232] 5)) (qj (.slice (some ⟨h2.next,0,none⟩) 1 3) [232]::[pt b _]):=wT s2 [232] 3 (by decide);simp only[EE,Int.reduceEq,Xh,Dl,Yc,Zx];refine Ey s3 (n:=4) rfl (by decide) λv h' rn s4=>?_;refine aX s4 (by simp[wQ]) λv3 h6 rn3 s6=>?_;simp only[EE,rn3];exact fin s6 rfl
theorem R5  (s2:Sat (.of h) h2 [pt b (.cells (zF.row ⟨22,r,m,sub,cc,l,k⟩) 42)]):vD (.int .i64 22) h2 (.int .i64 d) (Vp h (zf ⟨22,r,m,sub,cc,l,k⟩ d)) (.pointer (some ⟨b,0,none⟩)) J:=by
 have g2:=s2.get;have l2:=s2.lt;unfold vD;have s3:Sat (.of h) (h2.push (.cells [.int .u8 195] 5)) (qj (.slice (some ⟨h2.next,0,none⟩) 1 3) [195]::[pt b _]):=wT s2 [195] 3 (by decide);simp only[EE,Int.reduceEq,Xh,W0,Yc,Zx];exact fin s3 rfl
theorem R6  (s2:Sat (.of h) h2 [pt b (.cells (zF.row ⟨23,r,m,sub,cc,l,k⟩) 42)]):vD (.int .i64 23) h2 (.int .i64 d) (Vp h (zf ⟨23,r,m,sub,cc,l,k⟩ d)) (.pointer (some ⟨b,0,none⟩)) J:=by
 have g2:=s2.get;have l2:=s2.lt;unfold vD;have s3:Sat (.of h) (h2.push (.cells [.int .u8 72,.int .u8 129,.int .u8 236] 5)) (qj (.slice (some ⟨h2.next,0,none⟩) 3 5) [72,129,236]::[pt b _]):=wT s2 [72,129,236] 5 (by decide);simp only[EE,Int.reduceEq,zv,xY,xQ,zL,Dk,Uw,W0,Yc,Zx,g2,l2];refine Ey s3 (n:=4) rfl (by decide) λv h' rn s4=>?_;refine aX s4 (by simp[wQ]) λv3 h6 rn3 s6=>?_;simp only[EE,rn3];exact fin s6 rfl
theorem R7  (s2:Sat (.of h) h2 [pt b (.cells (zF.row ⟨24,r,m,sub,cc,l,k⟩) 42)]):vD (.int .i64 24) h2 (.int .i64 d) (Vp h (zf ⟨24,r,m,sub,cc,l,k⟩ d)) (.pointer (some ⟨b,0,none⟩)) J:=by
 have g2:=s2.get;have l2:=s2.lt;unfold vD;have s3:Sat (.of h) (h2.push (.cells [.int .u8 72,.int .u8 129,.int .u8 196] 5)) (qj (.slice (some ⟨h2.next,0,none⟩) 3 5) [72,129,196]::[pt b _]):=wT s2 [72,129,196] 5 (by decide);simp only[EE,Int.reduceEq,zv,xY,xQ,zL,Dj,KQ,Uw,W0,Yc,Zx,g2,l2];refine Ey s3 (n:=4) rfl (by decide) λv h' rn s4=>?_;refine aX s4 (by simp[wQ]) λv3 h6 rn3 s6=>?_;simp only[EE,rn3];exact fin s6 rfl
theorem R8  (s2:Sat (.of h) h2 [pt b (.cells (zF.row ⟨25,r,m,sub,cc,l,k⟩) 42)]):vD (.int .i64 25) h2 (.int .i64 d) (Vp h (zf ⟨25,r,m,sub,cc,l,k⟩ d)) (.pointer (some ⟨b,0,none⟩)) J:=by
 have g2:=s2.get;have l2:=s2.lt;unfold vD;have s3:Sat (.of h) (h2.push (.cells [.int .u8 72,.int .u8 237] 5)) (qj (.slice (some ⟨h2.next,0,none⟩) 2 4) [72,237]::[pt b _]):=wT s2 [72,237] 4 (by decide);simp only[EE,Int.reduceEq,vM,dW,KQ,Uw,W0,Yc,Zx];exact fin s3 rfl
theorem R9  (s2:Sat (.of h) h2 [pt b (.cells (zF.row ⟨26,r,m,sub,cc,l,k⟩) 42)]):vD (.int .i64 26) h2 (.int .i64 d) (Vp h (zf ⟨26,r,m,sub,cc,l,k⟩ d)) (.pointer (some ⟨b,0,none⟩)) J:=by
 have g2:=s2.get;have l2:=s2.lt;unfold vD;have s3:Sat (.of h) (h2.push (.cells [.int .u8 72,.int .u8 239] 5)) (qj (.slice (some ⟨h2.next,0,none⟩) 2 4) [72,239]::[pt b _]):=wT s2 [72,239] 4 (by decide);simp only[EE,Int.reduceEq,vM,od,dW,KQ,Uw,W0,Yc,Zx];exact fin s3 rfl
theorem R3(hJ:∀vs,J vs h2):vD (.int .i64 20) h2 (.int .i64 d) (Vp h (zf ⟨20,r,m,sub,cc,l,k⟩ d)) (.pointer (some ⟨b,0,none⟩)) J:=by
 unfold vD;simp only[EE,nth,Int.reduceEq,od,dW,KQ,Uw,W0,Yc,Zx];exact hJ _
end
section
variable {h:za}{x:zF}{d:Int}
theorem zaG(Y:rI x)(hx:18<=x.op):DC Tryz.prog 63 [x.val,.int .i64 d] h (Vp h (zf x d)):=by
 apply Wg;intro wf;apply Lc;unfold M3;obtain⟨op,r,m,sub,cc,l,k⟩:=x;obtain⟨Yop,YR,YM,Yalu,Ysiz,Yun,Yext,Ysh,Ycc⟩:=Y;have s0:=Sat.self wf.2;simp only[EE,Value.cells];refine qt s0 λb h2 s2=>?_;have g2:=s2.get;simp only[EE,↓zt,zv,zk,DU,zc,g2];simp only at Yop YR YM Yalu Ysiz Yun Yext Ysh Ycc hx;have:op=18\/op=19\/op=20\/op=21\/op=22\/op=23\/op=24\/op=25\/op=26:=by omega
 rcases this with rfl|rfl|rfl|rfl|rfl|rfl|rfl|rfl|rfl
 ·exact RY s2
 ·exact R2 (Ycc (.inr rfl)).1 (Ycc (.inr rfl)).2 s2
 ·refine R3 λvs=>?_;exact fin (wT s2 [] 2 (by decide)) rfl
 ·exact R4 s2
 ·exact R5 s2
 ·exact R6 s2
 ·exact R7 s2
 ·exact R8 s2
 ·exact R9 s2
theorem WC(Y:rI x)(d:Int):DC Tryz.prog 29 [x.val,.int .i64 d] h (Vp h (zf x d)):=by
 apply Wg;intro wf;apply Fl;unfold G5;have Z:=Y
 have go:∀{h2:za} {b:Nat},Sat (.of h) h2 [pt b (.cells x.row 42)]->18<=x.op->(zP Tryz.prog (.func (.func 63) #[] #[]) [x.val,.int .i64 d] h2 (λt200 h122=>rv [t200] h122 (Vp h (zf x d)))):=λ{h2 b} s2 hx=>by
  refine QJ (zaG Y hx) ?_;rintro v h3 s3;have s4:=s2.join s3;have vn:=vt s3;simp only[EE,vn];exact fin s4 rfl
 obtain⟨op,r,m,sub,cc,l,k⟩:=x;obtain⟨Yop,YR,YM,Yalu,Ysiz,Yun,Yext,Ysh,Ycc⟩:=Z;have s0:=Sat.self wf.2;simp only[EE,Value.cells];refine EM s0 wf λb h2 w2 s2=>?_;have g2:=s2.get;simp only[EE,zv,zk,z8,yx,g2];refine YL (Wb (.inl rfl) r m _) ?_;simp only[EE,zv,zk,z8,yx,m9,g2];refine YL (Wb (.inl rfl) m r _) ?_;simp only[EE,zv,zk,z8,m8,g2];refine YL (Wb (.inl rfl) 0 r _) ?_;simp only[EE,↓zt,kH,zv,zk,uC,zc,m7,g2];simp only at Yop YR YM Yalu Ysiz Yun Yext Ysh Ycc go;by_cases h1:op=1
 ·subst h1;exact zcy (YR rfl) (YM rfl) w2 s2
 by_cases h2':op=2
 ·subst h2';by_cases hk:Go.Ar.zS k=true
  ·exact zcz (YR rfl) hk w2 s2
  ·exact zbn (YR rfl) hk w2 s2
 by_cases h3:op=3
 ·subst h3;rcases Ysiz (.inl rfl) with rfl|rfl|rfl
  ·exact TI (YR rfl) (YM rfl) w2 s2
  ·exact TJ (YR rfl) (YM rfl) w2 s2
  ·exact TK (YR rfl) (YM rfl) w2 s2
 by_cases h4:op=4
 ·subst h4;rcases Ysiz (.inr rfl) with rfl|rfl|rfl
  ·exact TL (YR rfl) (YM rfl) w2 s2
  ·exact TM (YR rfl) (YM rfl) w2 s2
  ·exact TN (YR rfl) (YM rfl) w2 s2
 by_cases h5:op=5
 ·subst h5;exact zcA (YR rfl) (YM rfl) w2 s2
 by_cases h6:op=6
 ·subst h6;exact zcB (YR rfl) w2 s2
 by_cases h7:op=7
 ·subst h7;by_cases hs:sub=13
  ·subst hs;exact zbo (YR rfl) (YM rfl) w2 s2
  ·exact zcC (YR rfl) (YM rfl) hs w2 s2
 by_cases h8:op=8
 ·subst h8;by_cases hs:sub=13
  ·subst hs;exact zbp (YR rfl) w2 s2
  ·have:=Yalu (.inr rfl);exact zcD (YR rfl) (by omega) w2 s2
 by_cases h9:op=9
 ·subst h9;rcases Yun rfl with rfl|rfl
  ·exact TP (YR rfl) w2 s2
  ·exact TQ (YR rfl) w2 s2
 by_cases h10:op=10
 ·subst h10;rcases Yext rfl with rfl|rfl
  ·exact PG (YR rfl) (YM rfl) w2 s2
  ·exact PH (YR rfl) (YM rfl) (by decide) w2 s2
 by_cases h11:op=11
 ·subst h11;rcases Ysh (.inl rfl) with rfl|rfl
  ·exact TE (YR rfl) w2 s2
  ·exact TF (YR rfl) w2 s2
 by_cases h12:op=12
 ·subst h12;rcases Ysh (.inr rfl) with rfl|rfl
  ·exact TG (YR rfl) w2 s2
  ·exact TH (YR rfl) w2 s2
 by_cases h13:op=13
 ·subst h13;exact zbi w2 s2
 by_cases h14:op=14
 ·subst h14;exact zbj (YM rfl) w2 s2
 by_cases h15:op=15
 ·subst h15;exact zbk (YR rfl) (YM rfl) w2 s2
 by_cases h16:op=16
 ·subst h16;exact zbl (YR rfl) w2 s2
 by_cases h17:op=17
 ·subst h17;exact zbm (YR rfl) (Ycc (.inl rfl)).1 (Ycc (.inl rfl)).2 w2 s2
 unfold zB;simp only[EE,Nat.reduceAdd,bE,U1,WQ,YY,ZY,jn,qD,uQ,vV,vw,wP,wL,wh,xM,yQ,yK,h1,h2',h3,h4,h5,h6,h7,h8,h9,h10,h11,h12,h13,h14,h15,h16,h17,g2];exact go s2 (by omega)
end
open Go.Rm (kM YH wJ wR yP uw xG zN Rd Rd.of Rd.at)
open Go.As (Zf qw)
section
variable {lo:y4}{h:za}{L:List HP}{gv sv:aaa}{gl zs:List Int}
theorem eR(zs:List Int):∀r,r∈zs.map zN->r.length=1:=xG (f:=zN) (λ_=>rfl) zs
theorem WA(s:Sat lo h (kM 2 1 sv (zs.map zN)::L))(z:Int)(XT:zs.length<=1000000) :
  ∃b c h',(∀r,zG Tryz.prog .append [67,67] r [sv,.slice (some ⟨h.next,0,none⟩) 1 3] (h.push (.cells [.int .i64 z] 2))=some (.slice (some ⟨b,0,none⟩) (zs.length+1) c,h'))/\Sat lo h' (kM 2 1 (.slice (some ⟨b,0,none⟩) (zs.length+1) c) ((zs++[z]).map zN)::L):=by
 have s1:=s.push (.cells [.int .i64 z] 2);obtain⟨b',c',h',a1,s2⟩:=YH (s1.p 1) (eR zs) [.int .i64 z] rfl (by decide) 8 (by rw[aau];omega);rw[aau]at a1 s2;refine⟨b',c',h',λr=>?_,?_⟩
 ·rw[ZB r _ _ 1 [.int .i64 z] _ rfl (by simp only[qP,uz];rfl) rfl rfl];exact a1
 ·rw[abm];exact(s2.p 1).drop
theorem Af{g a:Int}(g0:0<=g)(g1:g<=65536)(a0:0<=a)(a1:a<=100000000):IntKind.wrap .i64 (a+IntKind.wrap .i64 (IntKind.wrap .i64 ((IntKind.wrap .i64 (g+31)).tdiv 16)*16))=a+(g+31)/16*16:=by
 have e1:IntKind.wrap .i64 (g+31)=g+31:=Go.Mem.Fj (by omega) (by omega);have e2:(g+31).tdiv 16=(g+31)/16:=Int.tdiv_eq_ediv_of_nonneg (by omega);have e3:IntKind.wrap .i64 ((g+31)/16)=(g+31)/16:=Go.Mem.Fj (by omega) (by omega);have e4:IntKind.wrap .i64 ((g+31)/16*16)=(g+31)/16*16:=Go.Mem.Fj (by omega) (by omega);rw[e1,e2,e3,e4,Go.Mem.Fj (by omega) (by omega)]
theorem EU(S:zE h gv gl)(hg:∀g,g∈gl->0<=g/\g<=65536)(XT:gl.length<=1000):DC Tryz.prog 25 [gv] h (λr h'=>Sat (.of h) h' [kM 2 1 r ((vo gl 16777216).map zN)]):=by
 apply Wg;intro wf;apply Dg;unfold Df;have s0:Sat (.of h) h []:=Sat.self wf.2;have R:Rd (.of h) (zE · gv gl):=Rd.of (y4.jP h) S λh' o=>S.old o;have gn:=S.QU;have ln:=qw S 3 h;simp only[EE,↓zt,gn,ln];refine qb (λm vs h'=>∃(i:Nat) (r:aaa),i<=gl.length/\m=gl.length-i/\vs=[.int .i64 (XU (gl.take i) 16777216),r,.int .i64 (i:Nat)]/\Sat (.of h) h' [kM 2 1 r ((vo (gl.take i) 16777216).map zN)]) gl.length ⟨0,.slice none 0 0,aaN _,rfl,rfl,wR _ _ s0⟩ ?_;rintro m vs h' ⟨i,r,hi,rfl,rfl,s⟩;have rn:=yP s;unfold oc;by_cases hc:(i:Int)<(gl.length:Int)
 ·obtain⟨g,hgi⟩:∃g,gl[i]? = some g:=⟨_,aaf (by omega)⟩;have gb:=hg g (aax hgi);obtain⟨b,o,c,t,a1,a2,a3,a4⟩:=Zf (R.at s) hgi;have et:gl.take (i+1)=gl.take i++[g]:=by rw[abb,hgi];rfl
  have eb:=Jg (gl.take i) 16777216 λx hx=>hg x (abo hx);rw[aaQ,abW hi]at eb;have hl:(vo (gl.take i) 16777216).length=i:=by rw[WN,aaQ,abW hi]
  obtain⟨b2,c2,h2,e1,s2⟩:=WA s (XU (gl.take i) 16777216) (by omega);have w1:IntKind.wrap .i64 (g+16)=g+16:=Go.Mem.Fj (by omega) (by omega);have w2:IntKind.wrap .i64 (g+16+16)=g+32:=by rw[Go.Mem.Fj (by omega) (by omega)];omega
  have w3:g+32-1=g+31:=by omega
  have w4:=Af gb.1 gb.2 (show 0<=XU (gl.take i) 16777216 by omega) (by omega);have hin:=inc (show i<4611686018427387904 by omega);simp only[EE,nth,↓zt,Int.reduceEq,zv,zk,wM,n6,n7,hc,a1,a3,a4,rn,e1,w1,w2,w3,w4,hin];refine⟨gl.length-(i+1),by omega,i+1,.slice (some ⟨b2,0,none⟩) ((vo (gl.take i) 16777216).length+1) c2,by omega,rfl,?_,?_⟩
  ·rw[et,(Vg g (gl.take i) 16777216).2]
  ·rw[et,(Vg g (gl.take i) 16777216).1];exact s2
 ·have e:i=gl.length:=by omega
  subst e;rw[abv]at s;simp only[EE,nth,hc,rn];exact s
theorem jN(S:zE h gv gl)(hg:∀g,g∈gl->0<=g/\g<=65536)(XT:gl.length<=1000):DC Tryz.prog 30 [gv] h (λr h'=>Sat (.of h) h' [kM 2 1 r ((vo gl 16777216).map zN)]):=by
 apply Wg;intro wf;apply Cu;unfold Ct;have s0:Sat (.of h) h []:=Sat.self wf.2;have R:Rd (.of h) (zE · gv gl):=Rd.of (y4.jP h) S λh' o=>S.old o;have gn:=S.QU;have ln:=λh=>qw S 3 h;simp only[Int.reduceLE];refine qb (λm vs h'=>∃(i:Nat) (r:aaa),i<=gl.length/\m=gl.length-i/\vs=[r,.int .i64 (XU (gl.take i) 16777216),.int .i64 (i:Nat)]/\Sat (.of h) h' [kM 2 1 r ((vo (gl.take i) 16777216).map zN)]) gl.length ⟨0,_,aaN _,rfl,rfl,wJ (rows:=[]) (c:=2) (by decide) (λr hr=>by cases hr) rfl (s0.push _)⟩ ?_;rintro m vs h' ⟨i,r,hi,rfl,rfl,s⟩;have rn:=yP s;unfold nk;by_cases hc:(i:Int)<(gl.length:Int)
 ·obtain⟨g,hgi⟩:∃g,gl[i]? = some g:=⟨_,aaf (by omega)⟩;have gb:=hg g (aax hgi);have et:gl.take (i+1)=gl.take i++[g]:=by rw[abb,hgi];rfl
  have eb:=Jg (gl.take i) 16777216 λx hx=>hg x (abo hx);rw[aaQ,abW hi]at eb;have hl:(vo (gl.take i) 16777216).length=i:=by rw[WN,aaQ,abW hi]
  obtain⟨b2,c2,h2,e1,s2⟩:=WA s (XU (gl.take i) 16777216) (by omega);obtain⟨b,o,c,t,a1,a2,a3,a4⟩:=Zf (R.at s2) hgi;have w1:IntKind.wrap .i64 (g+16)=g+16:=Go.Mem.Fj (by omega) (by omega);have w3:g+16+15=g+31:=by omega
  have w4:=Af gb.1 gb.2 (show 0<=XU (gl.take i) 16777216 by omega) (by omega);have hin:=inc (show i<4611686018427387904 by omega);simp only[EE,nth,↓zt,Int.reduceEq,zv,zk,wM,ni,nj,gn,ln,hc,a1,a3,a4,rn,e1,w1,w3,w4,hin];refine⟨gl.length-(i+1),by omega,i+1,.slice (some ⟨b2,0,none⟩) ((vo (gl.take i) 16777216).length+1) c2,by omega,rfl,?_,?_⟩
  ·rw[et,(Vg g (gl.take i) 16777216).2]
  ·rw[et,(Vg g (gl.take i) 16777216).1];exact s2
 ·have e:i=gl.length:=by omega
  subst e;rw[abv]at s;simp only[EE,nth,gn,ln,hc,rn];exact s
end
open Go.Rm (yF Ju)
section
variable {lo:y4}{h:za}{L:List HP}{y:aaa}{xs ys:List Int}
theorem bm{b off:Nat}{cs vs:List aaa}{t:TypeId}{K:za->Prop}(s:Sat lo h (pt b (.cells cs t)::L))(wf:qJ h)(hl:off+vs.length<=cs.length)(hc:vs.all xj=true)(k:∀h',qJ h'->Sat lo h' (pt b (.cells (zu cs off vs) t)::L)->K h'):opt (AK h b off vs) K:=by
 rw[GQ s.get,aai ⟨hl,s.wr,hc⟩];exact k _ (Go.Rtl.wf_set wf s.lt _) (s.set _)
end
open Go.As (Pg X4 kP uW XR vE jQ)
section
variable {lo:y4}{h:za}{L:List HP}{f:Go.As.Fn}{q bl N c n st:Nat}{cs:List aaa}{v0 v1:aaa}{J:List aaa->za->Prop}
theorem zV{h:za}{y:aaa}{ys:List Int}(S:yM h y ys)(r:TypeId)(h':za):zG Tryz.prog .len [29] r [y] h'=some (.int .i64 ys.length,h'):=by
 have:=(vN S).1;rcases S with⟨rfl,e⟩|⟨b,off,cp,rfl,_⟩
 ·have:ys=[]:=by simpa using e
  subst this;rfl
 ·rw[aau]at *
  rfl
end
open Go.Rm (Rd.mono)
section
variable {lo:y4}{h:za}{L:List HP}{p:Pg}{b2 b4 bl c:Nat}{gv v0:aaa}{zs:List Int}{J:List aaa->za->Prop}{R:aaa->za->Prop}
theorem ie:∀fs gs:List Go.As.Fn,wI (fs++gs)=wI fs+wI gs
 |[],gs=>by rw[abF];show _=0+_;omega
 |f::fs,gs=>by
  show wN f.code+wI (fs++gs)=wN f.code+wI fs+wI gs;rw[ie fs gs];omega
theorem Q1(fs:List Go.As.Fn)(i:Nat):wI (fs.take i)<=wI fs:=by
 have:=ie (fs.take i) (fs.drop i);rw[abA]at this;omega
theorem Hy(s:Sat lo h (kM 3 1 gv (zs.map zN)::L))(z:Int)(XT:zs.length<=1000000) :
  ∃b c h',(∀r,zG Tryz.prog .append [22,22] r [gv,.slice (some ⟨h.next,0,none⟩) 1 3] (h.push (.cells [.int .i64 z] 3))=some (.slice (some ⟨b,0,none⟩) (zs.length+1) c,h'))/\Sat lo h' (kM 3 1 (.slice (some ⟨b,0,none⟩) (zs.length+1) c) ((zs++[z]).map zN)::L):=by
 have s1:=s.push (.cells [.int .i64 z] 3);obtain⟨b',c',h',a1,s2⟩:=YH (s1.p 1) (eR zs) [.int .i64 z] rfl (by decide) 8 (by rw[aau];omega);rw[aau]at a1 s2;refine⟨b',c',h',λr=>?_,?_⟩
 ·rw[SA r _ _ 1 [.int .i64 z] _ rfl (by simp only[qP,uz];rfl) rfl rfl];exact a1
 ·rw[abm];exact(s2.p 1).drop
def jE(fs:List Go.As.Fn):List Int:=(kV fs 0).map λ(n:Nat)=>(n:Int)
theorem rE(fs:List Go.As.Fn):(jE fs).length=fs.length:=by unfold jE;rw[aau,rF]
theorem E8(fs:List Go.As.Fn)(f:Go.As.Fn):jE (fs++[f])=jE fs++[((wI fs:Nat):Int)]:=by
 unfold jE;rw[lz,abm,abz];rfl
end
open Go.As (Wh)
open Go.Ar (xX Xi UJ)
structure InX (p:Pg) (code:List zF) (x:zF):Prop where
 lay:rI x
 lab:x.op=18\/x.op=19->¬xX code x.l 0<0
 call:x.op=21->0<=x.sub/\x.sub<p.funcs.length
 r8:x.op=6->0<=x.sub/\x.sub<p.globals.length/\0<=x.k/\x.k<=65536
structure PgX (p:Pg):Prop where
 ins:∀f,f∈p.funcs->∀x,x∈f.code->InX p f.code x
 once:∀f,f∈p.funcs->∀(j:Nat) y,f.code[j]? = some y->y.op=20->xX f.code y.l 0=(j:Int)
 cf:∀f,f∈p.funcs->f.code.length<=100000
 fl:p.funcs.length<=100
 gl:p.globals.length<=200
 gr:∀g,g∈p.globals->0<=g/\g<=65536
theorem OT{p:Pg}(h:Wh p=true):PgX p:=by
 have hd:Xi p=true:=by rw[UJ];exact h
 have hl:=λf fm=>Ra h (f:=f) fm;unfold Xi at hd;simp only[aad,aaD]at hd;obtain⟨h1,h2,h3⟩:=hd;unfold Go.As.ZD at h1;simp only[aad,aan,aam]at h1
 have gr:∀g,g∈p.globals->0<=g/\g<=65536:=λg hg=>by
  have:=h2 g hg;unfold Go.As.LR at this;simp only[aad,aan,aam]at this;omega
 refine⟨λf fm x hx=>?_,λf fm=>(hl f fm).1,λf fm=>?_,by omega,by omega,gr⟩
 ·have a:=h3 f fm;unfold Go.Ar.cE at a;simp only[aad]at a;have a1:=a.1;unfold Go.Ar.a9 at a1;rw[aaD]at a1;obtain⟨n,hn⟩:=List.getElem?_of_mem hx;have hn':=(aaU.1 hn).1;have b:=a1 n (by simpa using hn');unfold Go.Ar.Oe at b;rw[hn]at b;have b:Go.Ar.wZ p f.code n x=true:=b;unfold Go.Ar.wZ Go.Ar.ZC at b;simp only[aad,aan]at b;obtain⟨b1,b2,b3,b4⟩:=b;refine⟨ah b1,(hl f fm).2 x hx,λe=>?_,λe=>?_⟩
  ·rw[aaY e,abq,aba,aam,aam]at b3;omega
  ·rw[aaY e,abq]at b4;simp only[aba,aam]at b4;obtain⟨c1,c2,c3,c4⟩:=b4;have hlt:x.sub.toNat<p.globals.length:=by omega
   have:=gr _ (List.getElem_mem hlt);rw[abd,aaf hlt,abQ]at c4;exact⟨by omega,by omega,by omega,by omega⟩
 ·have a:=h3 f fm;unfold Go.Ar.cE at a;simp only[aad,aan,aam]at a;omega
theorem VQ{h:za}{sv:aaa}{zs:List Int}(S:zA h sv 1 (zs.map zN)){i:Nat}{z:Int}(hz:zs[i]? = some z):∃b o c t,xR Tryz.prog 67 sv (.int .i64 i)=some (.pointer (some ⟨b,o,none⟩))/\b<h.next/\h.get b=some (.cells c t)/\c[o]? = some (.int .i64 z):=by
 obtain⟨b,o,c,t,⟨off,cp,e1,e2⟩,hi,hb,hg,_,_,hk⟩:=S.spot (i:=i) (r:=zN z) (by rw[aaA,hz];rfl) rfl;refine⟨b,o,c,t,?_,hb,hg,by have:=hk 0 (by decide);exact this⟩;rw[e1,zbW,aai (by omega),e2,abl]
theorem oH{h:za}{sv:aaa}{zs:List Int}(S:zA h sv 1 (zs.map zN)){i:Nat}{z:Int}(hz:zs[i]? = some z):∃b o c t,xR Tryz.prog 22 sv (.int .i64 i)=some (.pointer (some ⟨b,o,none⟩))/\b<h.next/\h.get b=some (.cells c t)/\c[o]? = some (.int .i64 z):=by
 obtain⟨b,o,c,t,⟨off,cp,e1,e2⟩,hi,hb,hg,_,_,hk⟩:=S.spot (i:=i) (r:=zN z) (by rw[aaA,hz];rfl) rfl;refine⟨b,o,c,t,?_,hb,hg,by have:=hk 0 (by decide);exact this⟩;rw[e1,Ep,aai (by omega),e2,abl]
theorem Pe{p:Pg}{i:Int}(h0:0<=i)(h1:i<p.funcs.length):(jE p.funcs)[i.toNat]? = some (((kV p.funcs 0)[i.toNat]?.getD 0:Nat):Int)/\(kV p.funcs 0)[i.toNat]?.getD 0<=wI p.funcs:=by
 have hl:=AJ p.funcs 0 i.toNat (by omega);have:=Q1 p.funcs i.toNat;unfold jE;rw[aaA,hl];refine⟨rfl,?_⟩;rw[abQ];omega
theorem P1{p:Pg}(X:PgX p){i:Int}(h0:0<=i)(h1:i<p.globals.length):(vo p.globals 16777216)[i.toNat]? = some ((vo p.globals 16777216)[i.toNat]?.getD 0)/\16777216<=(vo p.globals 16777216)[i.toNat]?.getD 0/\(vo p.globals 16777216)[i.toNat]?.getD 0<=100000000:=by
 have hl:=pw p.globals 16777216 i.toNat (by omega);have:=Jg (p.globals.take i.toNat) 16777216 λg hg=>X.gr g (abo hg);have h2:(p.globals.take i.toNat).length<=200:=by rw[aaQ];have:=X.gl;omega
 rw[hl,abQ];exact⟨rfl,by omega,by omega⟩
theorem cS(xs:List zF)(j:Nat):wN (xs.take j)<=wN xs:=by
 have:=ib (xs.take j) (xs.drop j);rw[abA]at this;omega
theorem ic{fs:List Go.As.Fn}{f:Go.As.Fn}(h:f∈fs):wN f.code<=wI fs:=by
 obtain⟨a,b,rfl⟩:=aaR h;rw[ie];show _<=wI a+(wN f.code+wI b);omega
open Go.Rm (xr)
section
variable {lo:y4}{h:za}{L:List HP}{p:Pg}{b4 bl b8 c n o i:Nat}{gv sv av cv:aaa}{ls:List Nat}{f:Go.As.Fn}{x:zF}{J:List aaa->za->Prop}{J0:List aaa->za->Prop}
theorem fD{P:Program}{g:FuncId}{args:List aaa}{h:za}{R:aaa->za->Prop}(d:DC P g args h R):DC P g args h (λv h1=>R v h1/\qJ h1):=d.zb3 λv h1 r w=>⟨r,w⟩
end
open Go.Rm (ZE)
section
variable {lo:y4}{h:za}{L:List HP}{p:Pg}{b2 b4 bl b8 c n o i:Nat}{gv sv av cv:aaa}{ls:List Nat}{f:Go.As.Fn}{x:zF}{J:List aaa->za->Prop}{R:aaa->za->Prop}
end
end Go.Eb
namespace Go.Ac
open Go.Ai Go.Proofs
end Go.Ac
namespace Go.Ai
open Go.Ai Go.Proofs
end Go.Ai
namespace Go.Ar
open Go.Ai Go.Proofs
open Go.Rtl (zE zA Old inc vU Pb)
open Go.Rm (Rd Rd.of Rd.at kM xr xG zN)
open Go.As (zF Pg X4 kP)
section
variable {lo:y4}{h:za}{L:List HP}
end
open Go.Rtl (UU w7 rW vm)
end Go.Ar
namespace Go.Ac
open Go.Ai Go.Proofs
open Go.Rtl (zE zA Old inc vU Pb)
open Go.Rm (Rd Rd.of Rd.at kM xr wR YH yP uw xG zN)
open Go.As (zF Pg X4 kP XR Zf jQ qw)
section
variable {h:za}{p:Pg}
end
end Go.Ac
namespace Go.Eb
open Go.Ai Go.Proofs
open Go.Rtl (zE zA Old inc vU)
open Go.Rm (kM yF yP uw xr wR ZE xG zN Rd Rd.of Rd.at Rd.mono)
open Go.As (zF Pg X4 kP uW vE XR jQ Wh)
open Go.Ar (xX)
open Go.En
section
variable {h:za}{p:Pg}
end
open Go.Rm (YH)
def pX(xs:List zF)(n:Nat):List Int:=(si xs n).map λ(k:Nat)=>(k:Int)
theorem OK(xs:List zF)(n:Nat):(pX xs n).length=xs.length:=by unfold pX;rw[aau,EN]
theorem L8(xs:List zF)(x:zF)(n:Nat):pX (xs++[x]) n=pX xs n++[((n+wN xs:Nat):Int)]:=by
 unfold pX;rw[Ax,abm];rfl
theorem Iu{xs:List zF}{n k:Nat}(h:k<xs.length):(pX xs n)[k]? = some ((n+wN (xs.take k):Nat):Int):=by
 unfold pX;rw[aaA,Iv xs n k h];rfl
def cU(v:aaa):List aaa:=[v]
def MC(p:Pg)(vs:List aaa)(h:za):Prop := ∀(k:Nat) (v:aaa) (f:Go.As.Fn),vs[k]? = some v->p.funcs[k]? = some f->zA h v 1 ((pX f.code (wI (p.funcs.take k))).map zN)
section
variable {lo:y4}{h:za}{L:List HP}{p:Pg}{b1 c n o i st:Nat}{sv av lv:aaa}{f:Go.As.Fn}{x:zF}{J:List aaa->za->Prop}{v0 v1 v2:aaa}
theorem zaq(RP:Rd lo (kP · p))(hfi:p.funcs[i]? = some f)(hY:∀x,x∈f.code->rI x)(hsz:wN f.code<=1000000)(hst:st<=1000000)(hfl:f.code.length<=1000000)(s:Sat lo h (kM 3 1 (.slice none 0 0) ([].map zN)::pt b1 (.cells p.row 25)::L))
  (k:∀h' lv,Sat lo h' (kM 3 1 lv ((pX f.code st).map zN)::pt b1 (.cells p.row 25)::L)->J [.int .i64 ((st+wN f.code:Nat):Int),lv] h') :
  LP (KF (.pointer (some ⟨b1,0,none⟩)) [v0,v1,v2,.int .i64 i] J) [.int .i64 st,.slice none 0 0,.int .i64 0] h:=by
 refine qb (λm vs h'=>∃(j:Nat) (lv:aaa),j<=f.code.length/\m=f.code.length-j/\vs=[.int .i64 ((st+wN (f.code.take j):Nat):Int),lv,.int .i64 (j:Nat)]/\Sat lo h' (kM 3 1 lv ((pX (f.code.take j) st).map zN)::pt b1 (.cells p.row 25)::L)) f.code.length ⟨0,.slice none 0 0,aaN _,rfl,rfl,s⟩ ?_;rintro m vs h1 ⟨j,lv,hj,rfl,rfl,s1⟩;have P:=RP.at s1;have fm:=aax hfi;obtain⟨bf,ofs,cf,tf,hif,hbf,hgf,hlf,htf,hkf⟩:=XR P.funcs (i:=i) (r:=f.row) (by rw[aaA,hfi];rfl) rfl;have k1:cf[ofs+1]? = some f.cv:=hkf 1 (by decide);have g1:=(s1.p 1).get;have fvn:=P.funcs.QU;have cvn:=(P.fns f fm).code.QU;have lf:=λh'=>vE (P.fns f fm).code 3 h';have lvn:=yP s1;unfold KF;by_cases hc:(j:Int)<(f.code.length:Int)
 ·obtain⟨x,hi⟩:∃x,f.code[j]? = some x:=⟨_,aaf (by omega)⟩;have et:f.code.take (j+1)=f.code.take j++[x]:=by rw[abb,hi];rfl
  have hss:=GO (f.code.take j) x;rw[<- et]at hss;have hmono:=cS f.code (j+1);have hin:=inc (show j<4611686018427387904 by omega);obtain⟨b5,c5,h5,e5,s5⟩:=Hy s1 ((st+wN (f.code.take j):Nat):Int) (by rw[OK,aaQ];omega);rw[<- L8,<- et]at s5;have P5:=RP.at s5;obtain⟨bf5,ofs5,cf5,tf5,hif5,hbf5,hgf5,hlf5,htf5,hkf5⟩:=XR P5.funcs (i:=i) (r:=f.row) (by rw[aaA,hfi];rfl) rfl;have k15:cf5[ofs5+1]? = some f.cv:=hkf5 1 (by decide);obtain⟨bi,oi,ci,ti,ha,hbi,hgi,hle,htk,_⟩:=uW (P5.fns f fm).code (i:=j) (r:=x.row) (by rw[aaA,hi];rfl) rfl;have g5:=(s5.p 1).get;simp only[EE,nth,↓zt,zv,kI,Yw,gH,vu,qy,iB,g1,hif,hgf,k1,cvn,lf,hc];simp only[EE,nth,kH,zv,uC,Yw,qy,lvn,e5,g5,hif5,hgf5,k15,ha,hgi,hle,htk];refine QJ (WC (hY x (aax hi)) 0) ?_;rintro v h6 s6;have s7:=s5.join s6;have vn:=vt s6;have ln:=λh'=>zV (xq s6 aao) 3 h';have sz:(zf x 0).length=qi x:=rfl;rw[sz]at ln
  have hadd:IntKind.wrap .i64 (((st+wN (f.code.take j):Nat):Int)+(qi x:Int))=((st+wN (f.code.take (j+1)):Nat):Int):=by
   rw[hss,Go.Mem.Fj (by omega) (by omega)];push_cast;omega
  simp only[EE,nth,iA,iC,vn,ln,hadd,hin];refine⟨f.code.length-(j+1),by omega,j+1,.slice (some ⟨b5,0,none⟩) ((pX (f.code.take j) st).length+1) c5,by omega,rfl,rfl,s7.drop⟩
 ·have e:j=f.code.length:=by omega
  subst e;rw[abv]at s1 ⊢;simp only[EE,nth,zv,kI,Yw,vu,qy,g1,hif,hgf,k1,cvn,lf,hc];exact k h1 lv s1
theorem IP(vs:List aaa):∀r,r∈vs.map cU->r.length=1:=xG (f:=cU) (λ_=>rfl) vs
theorem zar(RP:Rd lo (kP · p))(X:PgX p)(hsz:wI p.funcs<=1000000)(s:Sat lo h (pt b1 (.cells p.row 25)::L))
  (k:∀h' lo1 vs av sv,lo.Le lo1->vs.length=p.funcs.length->Rd lo1 (MC p vs)->Sat lo1 h' (kM 3 1 sv ((jE p.funcs).map zN)::kM 22 1 av (vs.map cU)::pt b1 (.cells p.row 25)::L)->J [sv,av] h') :
  LP (KG (.pointer (some ⟨b1,0,none⟩)) J) [.slice none 0 0,.slice none 0 0,.int .i64 0,.int .i64 0] h:=by
 refine qb (λm vs h'=>∃(i:Nat) (lo1:y4) (ls:List aaa) (av sv:aaa),i<=p.funcs.length/\m=p.funcs.length-i/\vs=[sv,av,.int .i64 ((wI (p.funcs.take i):Nat):Int),.int .i64 (i:Nat)]/\ls.length=i/\lo.Le lo1/\Rd lo1 (MC p ls)/\Sat lo1 h' (kM 3 1 sv ((jE (p.funcs.take i)).map zN)::kM 22 1 av (ls.map cU)::pt b1 (.cells p.row 25)::L)) p.funcs.length
  ⟨0,lo,[],.slice none 0 0,.slice none 0 0,aaN _,rfl,rfl,rfl,y4.Le.refl _,λh b k q f h1=>(by cases h1),wR _ _ (wR _ _ s)⟩ ?_
 rintro m vs h1 ⟨i,lo1,ls,av,sv,hi,rfl,rfl,hls,hle1,hR,s1⟩;have RP1:=RP.mono hle1;have P:=RP1.at s1;have fvn:=P.funcs.QU;have lf:=λh'=>jQ P.funcs 3 h';have g1:=(s1.p 2).get;have fl:=X.fl;have svn:=yP s1;have avn:=yP (s1.p 1);unfold KG;by_cases hc:(i:Int)<(p.funcs.length:Int)
 ·obtain⟨f,hf⟩:∃f,p.funcs[i]? = some f:=⟨_,aaf (by omega)⟩;have fm:=aax hf;have hcf:=X.cf f fm;have hin:=inc (show i<4611686018427387904 by omega);have et:p.funcs.take (i+1)=p.funcs.take i++[f]:=by rw[abb,hf];rfl
  have hss:=rC f (p.funcs.take i);rw[<- et]at hss;have hmono:=Q1 p.funcs (i+1);obtain⟨b5,c5,h5,e5,s5⟩:=Hy s1 ((wI (p.funcs.take i):Nat):Int) (by rw[rE,aaQ];omega);rw[<- E8,<- et]at s5;simp only[EE,nth,↓zt,zv,kI,gH,vu,iE,g1,fvn,lf,hc,svn,e5];refine zaq RP1 hf (λx hx=>(X.ins f fm x hx).lay) (by have:=ic fm;omega) (by omega) (by omega) (wR 3 1 (s5.f [2])) λh6 lv s6=>?_;obtain⟨lo2,l2,hL,s7,_⟩:=ZE s6 (eR _);have lvn:=yP s6;have lvc:=uw s6;obtain⟨la,ll,lc,rfl⟩:∃a n c,lv=.slice a n c:=by obtain⟨a,c,e⟩:=Go.Rm.UW s6;exact⟨a,_,c,e⟩
  have s8:=s7.push (.cells [.slice la ll lc] 22);obtain⟨b',c',h8,a1,s9⟩:=YH (s8.p 3) (IP ls) [.slice la ll lc] rfl (by decide) 24 (by rw[aau];omega);rw[aau]at a1 s9
  have hap:∀r,zG Tryz.prog .append [72,72] r [av,.slice (some ⟨h6.next,0,none⟩) 1 3] (h6.push (.cells [.slice la ll lc] 22))=some (.slice (some ⟨b',0,none⟩) (ls.length+1) c',h8):=λr=>by
   rw[zbd r _ _ 1 [.slice la ll lc] _ rfl (by simp only[qP,uz];rfl) (by simp only[ab8,List.all_nil,ab7];exact lvc) rfl];exact a1
  simp only[EE,nth,Lw,iD,iF,avn,hap,hin];refine⟨p.funcs.length-(i+1),by omega,i+1,lo2,ls++[.slice la ll lc],.slice (some ⟨b',0,none⟩) (ls.length+1) c',.slice (some ⟨b5,0,none⟩) ((jE (p.funcs.take i)).length+1) c5,by omega,rfl,by rw[hss],by simp[hls],hle1.trans l2,λh b k q f' hk hf'=>?_,?_⟩
  ·by_cases hki:k<ls.length
   ·rw[abk hki]at hk;exact hR.mono l2 h b k q f' hk hf'
   ·have hk2:k=ls.length:=by
     have:=(aaU.1 hk).1;simp at this;omega
    subst hk2;simp at hk;subst hk;rw[hls,hf]at hf';cases hf';rw[hls];exact hL h b
  ·rw[abm];exact(s9.f [1]).drop.f [2,0,1]
 ·have e:i=p.funcs.length:=by omega
  subst e;rw[abv]at s1;simp only[EE,nth,zv,kI,vu,g1,fvn,lf,hc];exact k h1 lo1 ls av sv hle1 hls hR s1
end
open Go.Ar (WI)
section
variable {lo:y4}{h:za}{L:List HP}{p:Pg}{b1 b13 b15 c n o i j:Nat}{sv av gv cv:aaa}{ls:List aaa}{f:Go.As.Fn}{x:zF}{J:List aaa->za->Prop}{v0 v1 v2:aaa}
structure AO (p:Pg) (ls:List aaa) (sv av gv:aaa) (h:za):Prop where
 pg:kP h p
 zb7:MC p ls h
 lists:zA h av 1 (ls.map cU)
 zaN:zA h sv 1 ((jE p.funcs).map zN)
 BW:zA h gv 1 ((vo p.globals 16777216).map zN)
theorem Nv{h:za}{sv:aaa}{vs:List aaa}(S:zA h sv 1 (vs.map cU)){i:Nat}{v:aaa}(hz:vs[i]? = some v):∃b o c t,xR Tryz.prog 72 sv (.int .i64 i)=some (.pointer (some ⟨b,o,none⟩))/\b<h.next/\h.get b=some (.cells c t)/\c[o]? = some v:=by
 obtain⟨b,o,c,t,⟨off,cp,e1,e2⟩,hi,hb,hg,_,_,hk⟩:=S.spot (i:=i) (r:=cU v) (by rw[aaA,hz];rfl) rfl;refine⟨b,o,c,t,?_,hb,hg,by have:=hk 0 (by decide);exact this⟩;rw[e1,zbX,aai (by omega),e2,abl]
theorem N6{code:List zF}{l:Int}(h:¬xX code l 0<0):(xX code l 0).toNat<code.length/\((xX code l 0).toNat:Int)=xX code l 0:=by
 rcases Go.Ar.Jb code l 0 with⟨a,b⟩|⟨j,a,⟨y,hy,hyl⟩,b⟩
 ·omega
 ·have:=(aaU.1 hy).1;rw[a];omega
theorem zbE(K:AO p ls sv av gv h)(X:PgX p)(hfi:p.funcs[i]? = some f)(hls:ls.length=p.funcs.length)(hx:x∈f.code)(hsz:wI p.funcs<=1000000)(hn:n<=1000000)(g13:h.get b13=some (.cells f.row 50))(g15:h.get b15=some (.cells x.row 42))
  (k:J [.int .i64 (N0 (vo p.globals 16777216) (kV p.funcs 0) f.code (wI (p.funcs.take i)) (wI (p.funcs.take i)+n) x)] h) :
  Ql (.int .i64 x.op) h [sv,av] [cv,.int .i64 i] (.pointer (some ⟨b13,0,none⟩)) (.pointer (some ⟨b15,0,none⟩)) (.int .i64 ((wI (p.funcs.take i)+n+qi x:Nat):Int)) gv J:=by
 have fm:=aax hfi;have hi:=(aaU.1 hfi).1;have IX:=X.ins f fm x hx;have F:=K.pg.fns f fm;have cvn:=F.code.QU;have tk:=Q1 p.funcs i;have szl:=size_le x;unfold N0 Td at k;unfold Ql;by_cases hj:x.op=18\/x.op=19
 ·have nl:=IX.lab hj;obtain⟨f1,f2⟩:=N6 nl;have oa:=Iu (xs:=f.code) (n:=wI (p.funcs.take i)) f1;obtain⟨q,hq⟩:∃q,ls[i]? = some q:=⟨_,aaf (by omega)⟩;obtain⟨b,o,c,t,a1,a2,a3,a4⟩:=Nv K.lists hq;have S:=K.zb7 i q f hq hfi;obtain⟨b',o',c',t',d1,d2,d3,d4⟩:=oH S oa;rw[f2]at d1;have szf:=ic fm;have szt:=cS f.code (xX f.code x.l 0).toNat;have w:=Go.Mem.Fj (n:=((wI (p.funcs.take i)+wN (f.code.take (xX f.code x.l 0).toNat):Nat):Int)-((wI (p.funcs.take i)+n+qi x:Nat):Int)) (by omega) (by omega);rw[aai (by omega),aai hj]at k;rcases hj with h18|h19
  ·have hd:decide (x.op=18)=true:=aaY h18;simp only[EE,nth,Nat.reduceAdd,kH,zv,qd,zk,aW,uv,Qk,hd,a1,a3,a4,g13,g15];refine T0 (by simp only[yi];rfl) (WI F x.l) ?_;simp only[EE,nth,zv,zk,KH,d1,d3,d4,w];exact k
  ·have hd:decide (x.op=19)=true:=aaY h19;have hd18:decide (x.op=18)=false:=aaX (by omega);simp only[EE,nth,Nat.reduceAdd,kH,zv,qd,zk,aW,uv,Qk,hd18,hd,a1,a3,a4,g13,g15];refine T0 (by simp only[yi];rfl) (WI F x.l) ?_;simp only[EE,nth,zv,zk,KH,d1,d3,d4,w];exact k
 have hd18:decide (x.op=18)=false:=aaX (by omega);have hd19:decide (x.op=19)=false:=aaX (by omega);by_cases h21:x.op=21
 ·have hd:decide (x.op=21)=true:=aaY h21;have cl:=IX.call h21;have sa:=Pe cl.1 cl.2;obtain⟨b,o,c3,t,a1,a2,a3,a4⟩:=oH K.zaN sa.1;rw[acd cl.1]at a1;rw[aai (by omega),aag hj,aai h21]at k;have w:=Go.Mem.Fj (n:=(((kV p.funcs 0)[x.sub.toNat]?.getD 0:Nat):Int)-((wI (p.funcs.take i)+n+qi x:Nat):Int)) (by omega) (by omega);simp only[EE,nth,zv,zk,zq,dC,Wu,hd18,hd19,hd,g15,a1,a3,a4,w];exact k
 have hd21:decide (x.op=21)=false:=aaX h21;by_cases h6:x.op=6
 ·have hd:decide (x.op=6)=true:=aaY h6;have lg:=IX.r8 h6;have sa:=P1 X lg.1 lg.2.1;obtain⟨b,o,c3,t,a1,a2,a3,a4⟩:=VQ K.BW sa.1;rw[acd lg.1]at a1;rw[aai (by omega),aag hj,aag h21,aai h6]at k;have w:=Go.Mem.Fj (n:=(vo p.globals 16777216)[x.sub.toNat]?.getD 0+x.k) (by omega) (by omega);have w2:=Go.Mem.Fj (n:=(vo p.globals 16777216)[x.sub.toNat]?.getD 0+x.k-((wI (p.funcs.take i)+n+qi x:Nat):Int)) (by omega) (by omega);simp only[EE,nth,zv,xY,zk,zq,zL,dz,Qj,Wu,hd18,hd19,hd21,hd,g15,a1,a3,a4,w,w2];exact k
 have hd6:decide (x.op=6)=false:=aaX h6;rw[aag (by omega)]at k;simp only[EE,nth,Qj,Wu,hd18,hd19,hd21,hd6];exact k
theorem TX(hK:Rd lo (AO p ls sv av gv))(X:PgX p)(hfi:p.funcs[i]? = some f)(hls:ls.length=p.funcs.length)(hsz:wI p.funcs<=1000000){bs:List Int}(hbs:bs.length=wI (p.funcs.take i))(wf:qJ h)
  (s:Sat lo h (pt b13 (.cells f.row 50)::qj cv bs::L)) {w0:aaa}
  (k:∀h' cv',qJ h'->Sat lo h' (pt b13 (.cells f.row 50)::qj cv' (bs++YU (vo p.globals 16777216) (kV p.funcs 0) f.code (wI (p.funcs.take i)) f.code (wI (p.funcs.take i)))::L)->J [cv'] h') :
  LP (Qm (.pointer (some ⟨b13,0,none⟩)) J [sv,av] [w0,.int .i64 i] gv) [cv,.int .i64 0] h:=by
 refine qb (λm vs h'=>∃(j:Nat) (cv':aaa),j<=f.code.length/\m=f.code.length-j/\vs=[cv',.int .i64 (j:Nat)]/\qJ h'/\Sat lo h' (pt b13 (.cells f.row 50)::qj cv' (bs++YU (vo p.globals 16777216) (kV p.funcs 0) f.code (wI (p.funcs.take i)) (f.code.take j) (wI (p.funcs.take i)))::L)) f.code.length
  ⟨0,cv,aaN _,rfl,rfl,wf,by
   have e:bs++YU (vo p.globals 16777216) (kV p.funcs 0) f.code (wI (p.funcs.take i)) (f.code.take 0) (wI (p.funcs.take i))=bs:=aa8 bs;rw[e];exact s⟩ ?_
 rintro m vs h1 ⟨j,cv',hj,rfl,rfl,w1,s1⟩;have K:=hK.at s1;have fm:=aax hfi;have F:=K.pg.fns f fm;have hcf:=X.cf f fm;have g13:=s1.get;have fcn:=F.code.QU;have lf:=λh'=>vE F.code 3 h';have cvn:=vt (s1.p 1);unfold Qm;by_cases hc:(j:Int)<(f.code.length:Int)
 ·obtain⟨x,hi⟩:∃x,f.code[j]? = some x:=⟨_,aaf (by omega)⟩;have hx:=aax hi;obtain⟨bi,oi,ci,ti,ha,hbi,hgi,hle,htk,_⟩:=uW F.code (i:=j) (r:=x.row) (by rw[aaA,hi];rfl) rfl;have et:f.code.take (j+1)=f.code.take j++[x]:=by rw[abb,hi];rfl
  have hin:=inc (show j<4611686018427387904 by omega);have szf:=ic fm;have szt:=cS f.code j;have tk:=Q1 p.funcs i;have szl:=size_le x;simp only[EE,nth,Value.cells,↓zt,kH,zv,uC,Yw,kJ,qy,dF,g13,fcn,lf,hc,ha,hgi,hle,htk];refine EM s1 w1 λb15 h2 w2 s2=>?_;simp only[EE,Nat.reduceAdd,xh];refine bm s2 w2 (by simp) rfl λh3 w3 s3=>?_;have g15:=s3.get;have K3:=hK.at s3;obtain⟨q,hq⟩:∃q,ls[i]? = some q:=⟨_,aaf (by have:=(aaU.1 hfi).1;omega)⟩;obtain⟨b,o,c,t,a1,a2,a3,a4⟩:=Nv K3.lists hq;have S:=K3.zb7 i q f hq hfi;have qn:=S.QU;obtain⟨b',o',c',t',d1,d2,d3,d4⟩:=oH S (Iu (xs:=f.code) (n:=wI (p.funcs.take i)) (k:=j) (by omega));simp only[EE,nth,zu,Nat.reduceAdd,kH,zv,qd,zk,uC,a1,a3,a4,d1,d3,d4,g15];refine PI (by kernel_rfl) rfl w3 s3 (WC (X.ins f fm x hx).lay 0) ?_;rintro v h4 s4 gr w4;have s5:=gr _ s4;generalize wS h3 h4=h5 at s5 w4 ⊢;have vn:=vt s4;have g15:=(s5.p 1).get;have g13:=(s5.p 2).get;have ln:=λh'=>zV (xq s5 aao) 3 h';have sz:(zf x 0).length=qi x:=rfl;rw[sz]at ln
  have hadd:IntKind.wrap .i64 (((wI (p.funcs.take i)+wN (f.code.take j):Nat):Int)+(qi x:Int))=((wI (p.funcs.take i)+wN (f.code.take j)+qi x:Nat):Int):=by
   rw[Go.Mem.Fj (by omega) (by omega)];push_cast;rfl
  simp only[EE,↓zt,zu,Nat.reduceAdd,zv,zk,zc,dE,vn,ln,hadd,g15];refine zbE (f:=f) (hK.at s5) X hfi hls hx hsz (by omega) g13 g15 ?_;simp only[EE,nth,zu,Nat.reduceAdd,kH,uC,dD,g15];refine QJ (fD (WC (X.ins f fm x hx).lay _)) ?_;rintro v2 h6 ⟨s6,w6⟩;have s7:=s5.join s6;obtain⟨a,m,c2,h8,e8,s8,w8,_⟩:=eA (s7.p 4) (xq (s7.p 4) (aaz _ aao)) (by rw[aar,hbs,gJ,IJ];omega);have v2n:=vt s6;simp only[EE,nth,dG,v2n,cvn,e8,hin];refine⟨f.code.length-(j+1),by omega,j+1,.slice a m c2,by omega,rfl,rfl,w8 w6,?_⟩;rw[et,oQ,<- aa7];exact(s8.f [1,2,3]).drop.drop.drop.f [1,0]
 ·have e:j=f.code.length:=by omega
  subst e;rw[abv]at s1;simp only[EE,nth,zv,Yw,qy,g13,fcn,lf,hc];exact k h1 cv' w1 s1
theorem PY(hK:Rd lo (AO p ls sv av gv))(X:PgX p)(hls:ls.length=p.funcs.length)(hsz:wI p.funcs<=1000000)(wf:qJ h)
  (s:Sat lo h (pt b1 (.cells p.row 25)::qj cv []::L))
  (k:∀h' cv',Sat lo h' (pt b1 (.cells p.row 25)::qj cv' (Ub p)::L)->J [cv'] h') :
  LP (Qn (.pointer (some ⟨b1,0,none⟩)) J [sv,av] gv) [cv,.int .i64 0] h:=by
 refine qb (λm vs h'=>∃(i:Nat) (cv':aaa),i<=p.funcs.length/\m=p.funcs.length-i/\vs=[cv',.int .i64 (i:Nat)]/\qJ h'/\Sat lo h' (pt b1 (.cells p.row 25)::qj cv' (K6 (vo p.globals 16777216) (kV p.funcs 0) (p.funcs.take i) 0)::L)) p.funcs.length
  ⟨0,cv,aaN _,rfl,rfl,wf,s⟩ ?_
 rintro m vs h1 ⟨i,cv',hi,rfl,rfl,w1,s1⟩;have K:=hK.at s1;have fl:=X.fl;have g1:=s1.get;have fvn:=K.pg.funcs.QU;have lf:=λh'=>jQ K.pg.funcs 3 h';have cvn:=vt (s1.p 1);unfold Qn;by_cases hc:(i:Int)<(p.funcs.length:Int)
 ·obtain⟨f,hf⟩:∃f,p.funcs[i]? = some f:=⟨_,aaf (by omega)⟩;have fm:=aax hf;obtain⟨bf,ofs,cf,tf,hif,hbf,hgf,hlf,htf,hkf⟩:=XR K.pg.funcs (i:=i) (r:=f.row) (by rw[aaA,hf];rfl) rfl;have fcn:=(K.pg.fns f fm).code.QU;have fcc:=(K.pg.fns f fm).code.FQ;have hin:=inc (show i<4611686018427387904 by omega);have et:p.funcs.take (i+1)=p.funcs.take i++[f]:=by rw[abb,hf];rfl
  simp only[EE,nth,Value.cells,↓zt,kH,zv,kI,aW,SC,vu,dH,g1,fvn,lf,hc,hif,hgf,hlf,htf];refine EM s1 w1 λb13 h2 w2 s2=>?_;simp only[EE,Nat.reduceAdd,SB];refine bm s2 w2 (by simp) (by simp[fcc];rfl) λh3 w3 s3=>?_;refine TX (bs:=K6 (vo p.globals 16777216) (kV p.funcs 0) (p.funcs.take i) 0) hK X hf hls hsz (tY _ _ _ _) w3 (s3.f [0,2]) λh4 cv2 w4 s4=>?_;simp only[EE,nth,dI,hin];refine⟨p.funcs.length-(i+1),by omega,i+1,cv2,by omega,rfl,rfl,w4,?_⟩;rw[et,oR,abz];exact s4.drop.f [1,0]
 ·have e:i=p.funcs.length:=by omega
  subst e;rw[abv]at s1;simp only[EE,nth,zv,kI,vu,g1,fvn,lf,hc];exact k h1 cv' s1
theorem t9(P:kP h p)(hg:Wh p=true)(hsz:wI p.funcs<=1000000):DC Tryz.prog 12 [p.val] h (λv h'=>∃cv sv,v=.tuple #[cv,sv]/\Sat (.of h) h' [qj cv (Ub p),kM 3 1 sv ((jE p.funcs).map zN)]):=by
 apply Wg;intro wf;apply AV;unfold sI;have X:=OT hg;have s0:Sat (.of h) h []:=Sat.self wf.2;have RP:Rd (.of h) (kP · p):=Rd.of (y4.jP h) P λh' o=>P.old o;have gvn:=P.globals.QU;have gvc:=P.globals.FQ;have fvn:=P.funcs.QU;have fvc:=P.funcs.FQ;simp only[EE,Value.cells,↓zt];refine qt s0 λb1 h2 s2=>?_;simp only[];refine zar RP X hsz s2 λh3 lo1 ls av sv hle hls hOff s3=>?_;have svn:=yP s3;have avn:=yP (s3.p 1);obtain⟨lo2,l2,hS,s4,back⟩:=ZE s3 (eR _);obtain⟨lo3,l3,hA,s5,_⟩:=ZE s4 (IP _);have RP3:Rd lo3 (kP · p):=RP.mono ((hle.trans l2).trans l3);have g1:=s5.get;simp only[EE,zv,qd,vO,g1];refine lG (by simp only[yi,gvn,aaB]) (fD (jN (RP3.at s5).globals X.gr (aaV X.gl (by decide)))) ?_;rintro gv h6 ⟨s6,w6⟩;have s7:=s5.join s6;obtain⟨lo4,l4,hG,s8,_⟩:=ZE s7 (eR _);have gn:=yP s6;have hK:Rd lo4 (AO p ls sv av gv):=λh b=>⟨RP3.mono l4 h b,(hOff.mono (l2.trans (l3.trans l4))) h b,(hA.mono l4) h b,(hS.mono (l3.trans l4)) h b,hG h b⟩;simp only[dJ];refine PY hK X hls hsz (QR w6 _) ((wT s8 [] 2 (by decide)).f [1,0]) λh9 cv s9=>?_;have cvn:=vt (s9.p 1);simp only[EE,nth,cvn,svn];refine⟨cv,sv,rfl,?_⟩;have s10:=Sat.mono (l3.trans l4) s9;have s11:=Sat.mono hle (back _ _ s10);exact s11.k [2,0]
end
end Go.Eb
namespace Go.En
open Go.Ai Go.Proofs
open Go.As (zF Pg)
def YP(b:List Int)(s t:RS)(xs:List Int):Prop:=s.2=false/\t.2=false/\t.1=s.1+xs.length /\ ∀i,i<xs.length->b[s.1+i]? = xs[i]?
section
variable {b:List Int}{s t u:RS}{xs ys:List Int}{z k:Int}
theorem YP.app(h:YP b s t xs)(g:YP b t u ys):YP b s u (xs++ys):=by
 obtain⟨h1,h2,h3,h4⟩:=h;obtain⟨g1,g2,g3,g4⟩:=g;refine⟨h1,g2,by rw[aar];omega,λi hi=>?_⟩;rw[aar]at hi;by_cases c:i<xs.length
 ·rw[abk c];exact h4 i c
 ·rw[abj (by omega),<- g4 (i-xs.length) (by omega)]
  congr 1;omega
theorem YP.nil(h:s.2=false):YP b s s []:=⟨h,h,rfl,λi hi=>by cases hi⟩
theorem YP.all(h:YP b (0,false) t xs):b=xs++b.drop xs.length:=by
 obtain⟨h1,h2,h3,h4⟩:=h
 have e:b.take xs.length=xs:=by
  refine abV λi=>?_;by_cases c:i<xs.length
  ·rw[aa0 c,<- h4 i c];congr 1;omega
  ·rw[aat (by rw[aaQ];omega),aat (by omega)]
 conv=>lhs;rw[<- abA xs.length b,e]
theorem vp(ht:(zw b s).2.2=false):YP b s (zw b s).2 [(zw b s).1]:=by
 unfold zw at ht ⊢;cases h:b[s.1]? with
 |none=>rw[h]at ht;cases ht
 |some v=>
  rw[h]at ht;refine⟨ht,ht,rfl,λi hi=>?_⟩;have:i=0:=by simp at hi;omega
  subst this;exact h
theorem vy{c:Bool}(h:(zU c s).2=false):c=false/\zU c s=s:=by
 unfold zU at h ⊢;rw[aba]at h;exact⟨h.2,by rw[h.2,Bool.or_false]⟩
theorem Jl:∀n:Nat,(qK b n s).2.2=false->YP b s (qK b n s).2 (qK b n s).1/\(qK b n s).1.length=n
 |0,h=>⟨YP.nil h,rfl⟩
 |n+1,h=>by
  have a:=vp (b:=b) (s:=(qK b n s).2) h;obtain⟨h1,h2⟩:=Jl n a.1;exact⟨h1.app a,by show((qK b n s).1++[_]).length=n+1;rw[aar,h2];rfl⟩
theorem K0(hb:yH b)(h:YP b s t xs):yH xs:=by
 intro x hx;obtain⟨i,hi⟩:=List.getElem?_of_mem hx;have:=h.2.2.2 i (aaU.1 hi).1;rw[hi]at this;exact hb x (aax this)
theorem XY(hb:yH b)(ht:(wa b s).2.2=false):YP b s (wa b s).2 (xI 4 (wa b s).1)/\Go.Ar.zS (wa b s).1=true:=by
 obtain⟨h1,h2⟩:=Jl (b:=b) (s:=s) 4 ht;have hx:=K0 hb h1;refine⟨?_,Jh h2 hx⟩;show YP b s (qK b 4 s).2 (xI 4 (XV (qK b 4 s).1));rw[L3 h2 hx];exact h1
theorem OH(hb:yH b)(ht:(WH b s).2.2=false):YP b s (WH b s).2 (xI 8 (WH b s).1) /\ ∃xs,YP b s (WH b s).2 xs/\xs.length=8/\(WH b s).1=VW xs:=by
 obtain⟨h1,h2⟩:=Jl (b:=b) (s:=s) 8 ht;have hx:=K0 hb h1;refine⟨?_,_,h1,h2,rfl⟩;show YP b s (qK b 8 s).2 (xI 8 (VW (qK b 8 s).1));rw[L4 h2 hx];exact h1
end
theorem Jq{z w:Int}(h0:0<=z)(h1:z<256):zZ (ql z w)/\zZ (jW z w):=by
 unfold zZ ql jW
 constructor <;> (split <;> omega)
theorem UT{base z w:Int}(h0:0<=z)(h1:z<256)(hw:w=base\/w=base+1\/w=base+4\/w=base+5)(h8:base%8=0):zj base (ql z w) (jW z w)=w:=by
 have r1:8<=ql z w ↔ w/4%2=1:=by unfold ql;split <;> omega
 have r2:8<=jW z w ↔ w%2=1:=by unfold jW;split <;> omega
 unfold zj;rcases hw with rfl|rfl|rfl|rfl <;> split <;> split <;> omega
theorem ft(z w:Int):ql z w%8=z/8%8/\jW z w%8=z%8:=by
 unfold ql jW
 constructor <;> (split <;> omega)
theorem rG{z w:Int}(h0:0<=z)(h1:z<256)(h3:z/64=3):zX (ql z w) (jW z w)=z:=by
 unfold zX;rw[(ft z w).1,(ft z w).2];omega
theorem p8{z w:Int}(h0:0<=z)(h1:z<256)(h3:z/64=2):128+ql z w%8*8+jW z w%8=z:=by
 rw[(ft z w).1,(ft z w).2];omega
section
variable {b:List Int}{s:RS}{w:Int}
inductive MD (b:List Int) (w:Int) (s t:RS):lC->Prop
 |two (z:Int):0<=z->z<256->z/64=3->YP b s t [z]->MD b w s t ⟨ql z w,jW z w,false,false,0⟩
 |mem (z k:Int):0<=z->z<256->z/64=2->Go.Ar.zS k=true->YP b s t (uK (ql z w) (jW z w) k)->MD b w s t ⟨ql z w,jW z w,true,false,k⟩
 |place (z k:Int):0<=z->z<64->z%8=5->¬w%2=1->Go.Ar.zS k=true->YP b s t (z::xI 4 k)->MD b w s t ⟨ql z w,jW z w,false,true,k⟩
theorem US(hb:yH b)(ht:(ur b w s).2.2=false):MD b w s (ur b w s).2 (ur b w s).1:=by
 have fin:∀{t:RS},(zw b s).2.2=false->YP b s (zw b s).2 [(zw b s).1]/\0<=(zw b s).1/\(zw b s).1<256:=λ{t} h=>by
  have a:=vp h;have:=K0 hb a _ (aaq.2 rfl);exact⟨a,this.1,this.2⟩
 unfold ur at ht ⊢;simp only at ht ⊢;by_cases h3:(zw b s).1/64=3
 ·rw[aai h3]at ht ⊢;obtain⟨a,h0,h1⟩:=fin (t:=s) ht;exact .two _ h0 h1 h3 a
 rw[aag h3]at ht ⊢;by_cases h2:(zw b s).1/64=2
 ·rw[aai h2]at ht ⊢;simp only at ht ⊢;obtain⟨q,qs⟩:=XY hb ht;have s1:=q.1;unfold ia at q qs s1 ⊢;by_cases hm:jW (zw b s).1 w%8=4
  ·rw[aai hm]at q qs s1 ⊢;obtain⟨p1,p2⟩:=vy s1;rw[p2]at q qs s1 ⊢;have p3:(zw b (zw b s).2).1=36:=by simpa using p1
   have a2:=vp s1;obtain⟨a,h0,h1⟩:=fin (t:=s) a2.1;refine .mem _ _ h0 h1 h2 qs ?_;unfold uK We;rw[aai hm,p8 h0 h1 h2];have:=(a.app a2).app q;rw[p3]at this;exact this
  ·rw[aag hm]at q qs s1 ⊢;obtain⟨a,h0,h1⟩:=fin (t:=s) s1;refine .mem _ _ h0 h1 h2 qs ?_;unfold uK We;rw[aag hm,p8 h0 h1 h2];exact a.app q
 rw[aag h2]at ht ⊢;by_cases h0':(zw b s).1/64=0
 ·rw[aai h0']at ht ⊢;simp only at ht ⊢;obtain⟨q,qs⟩:=XY hb ht;have s1:=q.1;obtain⟨p1,p2⟩:=vy s1;rw[p2]at q qs s1 ⊢;rw[aba,aam,aam]at p1;obtain⟨a,h0,h1⟩:=fin (t:=s) s1;exact .place _ _ h0 (by omega) (Classical.not_not.1 p1.1) p1.2 qs (a.app q)
 ·rw[aag h0']at ht;exact absurd (vy ht).1 (by decide)
end
def Vt(r m:Int):List zF:=[⟨1,m,r,0,0,0,0⟩,⟨15,m,r,0,0,0,0⟩,⟨14,0,m,0,0,0,0⟩,⟨10,r,m,3,0,0,0⟩,⟨10,r,m,4,0,0,0⟩,⟨9,m,0,2,0,0,0⟩,⟨9,m,0,1,0,0,0⟩,⟨12,m,0,19,0,0,0⟩,⟨12,m,0,20,0,0,0⟩,⟨7,r,m,13,0,0,0⟩]
def pZ:List Int:=[11,12,16,17,18]
def rQ(r m:Int)(n:Nat):List zF:=(pZ.take n).map λs=>⟨7,m,r,s,0,0,0⟩
def rA(m:Int)(n:Nat):List zF:=((List.range n).map λc=>⟨17,m,0,0,21+(c:Nat),0,0⟩)
def Ig(r m k:Int):List zF:=[⟨2,m,0,0,0,0,k⟩,⟨16,m,0,0,0,0,k⟩,⟨5,r,m,0,0,0,k⟩,⟨23,0,0,0,0,0,k⟩,⟨24,0,0,0,0,0,k⟩,⟨8,m,0,13,0,0,k⟩]
def Oi(m k:Int)(n:Nat):List zF:=(pZ.take n).map λs=>⟨8,m,0,s,0,0,k⟩
def Eu(r m k:Int)(n:Nat):List zF:=(([1,2,4,8]:List Int).take n).flatMap λs=>[⟨3,r,m,s,0,0,k⟩,⟨4,r,m,s,0,0,k⟩]
def kL(r m k:Int):List zF:=Ig r m k++Oi m k 5++Eu r m k 4
def Jo(r m:Int)(ks:List Int):List zF:=Vt r m++rQ r m 5++rA m 6++ks.flatMap (kL r m)
def zT(b:List Int)(i:Nat):Int:=b[i]?.getD 0
def Al(b:List Int)(p:Nat):List Int:=(if p+5<=b.length then [XV ((b.drop (p+1)).take 4)] else [])++(if p+6<=b.length then [XV ((b.drop (p+2)).take 4)] else [])
def Mv(b:List Int)(p:Nat):List zF:=Jo (ql (zT b p) (zT b 0)) (jW (zT b p) (zT b 0)) (Al b p)
def g3(b:List Int):List zF:=if 3<=b.length then Mv b 2++(if 4<=b.length then Mv b 3 else []) else []
def Fi(b:List Int):List zF:=if 10<=b.length then [⟨2,jW (zT b 1) (zT b 0),0,0,0,0,VW ((b.drop 2).take 8)⟩] else []
def g4(b:List Int):List zF:=if 4<=b.length then [⟨11,jW (zT b 2) (zT b 0),0,19,0,0,zT b 3⟩,⟨11,jW (zT b 2) (zT b 0),0,20,0,0,zT b 3⟩] else []
def aF:List zF:=[⟨13,0,0,0,0,0,0⟩,⟨22,0,0,0,0,0,0⟩,⟨25,0,0,0,0,0,0⟩,⟨26,0,0,0,0,0,0⟩]
def uL(b:List Int):List zF:=g3 b++Fi b++g4 b++aF
def V4(x:zF):List Int:=[zj 72 0 x.r,184+x.r%8]++xI 8 x.k
section
variable {b:List Int}{t s:RS}{xs:List Int}{x:zF}{w o z k r m s2:Int}{p:Nat}
def UZ(b:List Int)(p:Nat)(r m:Int):Prop:=(p=2\/p=3)/\p<b.length/\r=ql (zT b p) (zT b 0)/\m=jW (zT b p) (zT b 0)
theorem UZ.mem(S:UZ b p r m)(h:x∈Jo r m (Al b p)):x∈uL b:=by
 obtain⟨h1,h2,rfl,rfl⟩:=S;unfold uL g3;rw[aai (by omega)];refine aaK _ (aaK _ (aaK _ ?_));rcases h1 with rfl|rfl
 ·exact aaK _ h
 ·rw[aai (by omega)];exact aa5 _ h
theorem UZ.p0(S:UZ b p r m)(h:x∈Vt r m):x∈uL b:=S.mem (aaK _ (aaK _ (aaK _ h)))
theorem UZ.Lj(S:UZ b p r m)(h:s2∈pZ):⟨7,m,r,s2,0,0,0⟩∈uL b:=S.mem (aaK _ (aaK _ (aa5 _ (List.mem_map_of_mem (f:=λs=>(⟨7,m,r,s,0,0,0⟩:zF)) h))))
theorem UZ.set(S:UZ b p r m)(h0:21<=s2)(h1:s2<=26):⟨17,m,0,0,s2,0,0⟩∈uL b:=S.mem (aaK _ (aa5 _ (by
 have:s2=21\/s2=22\/s2=23\/s2=24\/s2=25\/s2=26:=by omega
 rcases this with rfl|rfl|rfl|rfl|rfl|rfl <;> simp[rA,List.range,List.range.loop])))
theorem UZ.kk(S:UZ b p r m)(hk:k∈Al b p)(h:x∈kL r m k):x∈uL b:=S.mem (aa5 _ (List.mem_flatMap.2 ⟨k,hk,h⟩))
theorem Ih(A:YP b (0,false) t (xs++xI 4 k))(hk:Go.Ar.zS k=true)(hl:xs.length=p+1\/xs.length=p+2):k∈Al b p:=by
 have e:=A.all;rw[aa7]at e
 have hd:(b.drop xs.length).take 4=xI 4 k:=by
  rw[e,List.drop_left];exact List.take_left' (wQ 4 k)
 have hn:xs.length+4<=b.length:=by rw[e,aar,aar,wQ];omega
 unfold Al;rcases hl with hl|hl
 ·refine aaK _ ?_;rw[aai (by omega),<- hl,hd,ae hk];exact aaq.2 rfl
 ·refine aa5 _ ?_;rw[aai (by omega),<- hl,hd,ae hk];exact aaq.2 rfl
theorem WB(A:YP b (0,false) t xs){i:Nat}{v:Int}(h:xs[i]? = some v):zT b i=v/\i<b.length:=by
 have hi:=(aaU.1 h).1;have:=A.2.2.2 i hi;rw[h]at this;have:b[i]? = some v:=by rw[<- this];congr 1;omega
 exact⟨by unfold zT;rw[this];rfl,(aaU.1 this).1⟩
theorem X2{base:Int}(hx:xs[0]? = some (zj base r m))(hz:xs[p]? = some z)(hp:p=2\/p=3)(A:YP b (0,false) t xs)(R:zZ r)(M:zZ m)(hbase:base=72\/base=64)(z1:z/8%8=r%8)(z2:z%8=m%8):UZ b p r m:=by
 have a0:=WB A hx;have a1:=WB A hz
 have w:(zj base r m/4%2=1 ↔ 8<=r)/\(zj base r m%2=1 ↔ 8<=m):=by
  rcases hbase with rfl|rfl
  ·exact⟨(fA r m).2.1,(fA r m).2.2⟩
  ·exact⟨(IC r m).2.1,(IC r m).2.2⟩
 refine⟨hp,a1.2,?_,?_⟩
 ·rw[a0.1,a1.1,fu (b:=m) R.1 R.2 w.1 z1]
 ·rw[a0.1,a1.1,GM M.1 M.2 w.2 z2]
def bw(b:List Int)(q:zF×RS):Prop:=q.1∈uL b/\(YP b (0,false) q.2 (zf q.1 0)\/(q.1.op=2/\Go.Ar.zS q.1.k=true/\YP b (0,false) q.2 (V4 q.1)))
theorem YP.ge(A:YP b (0,false) t xs):xs.length<=b.length:=by
 have:=congrArg List.length A.all;rw[aar]at this;omega
theorem Gp(A:YP b (0,false) t (xs++uK r m k))(hk:Go.Ar.zS k=true)(hp:xs.length=p):k∈Al b p:=by
 unfold uK at A;rw[<- aa7]at A;refine Ih A hk ?_;unfold We;rw[aar];split
 ·right;simp[hp]
 ·left;simp[hp]
theorem Oz:(uK r m k)[0]? = some (128+r%8*8+m%8):=by
 unfold uK We;split <;> rfl
theorem Ni(R:zZ r)(M:zZ m)(hk:Go.Ar.zS k=true)(ho:¬o=15)(A:YP b (0,false) s ([zj 72 r m,o]++uK r m k))(ht:(uu o s2 ⟨r,m,true,false,k⟩ s).2.2=false):bw b (uu o s2 ⟨r,m,true,false,k⟩ s):=by
 have t:=V1 r m;have S:UZ b 2 r m:=X2 (base:=72) rfl (show(uK r m k)[0]? = _ from Oz) (.inl rfl) A R M (.inl rfl) t.2.1 t.2.2;have K:=Gp A hk (p:=2) rfl;unfold uu at ht ⊢;by_cases h1:o=139
 ·subst h1;exact⟨S.kk K (by simp[kL,Eu]),.inl A⟩
 rw[aag h1]at ht ⊢;by_cases h2:o=99
 ·subst h2;exact⟨S.kk K (by simp[kL,Eu]),.inl A⟩
 rw[aag h2,aag (λq=>ho q.1)]at ht ⊢;by_cases h3:o=137
 ·subst h3;exact⟨S.kk K (by simp[kL,Eu]),.inl A⟩
 rw[aag h3]at ht ⊢;by_cases h4:o=141
 ·subst h4;exact⟨S.kk K (by simp[kL,Ig]),.inl A⟩
 rw[aag h4]at ht;exact absurd (vy ht).1 (by decide)
theorem Nj(R:zZ r)(M:zZ m)(hk:Go.Ar.zS k=true)(A:YP b (0,false) s ([zj 72 r m,15,s2]++uK r m k))(ht:(uu 15 s2 ⟨r,m,true,false,k⟩ s).2.2=false):bw b (uu 15 s2 ⟨r,m,true,false,k⟩ s):=by
 have t:=V1 r m;have S:UZ b 3 r m:=X2 (base:=72) rfl (show(uK r m k)[0]? = _ from Oz) (.inr rfl) A R M (.inl rfl) t.2.1 t.2.2;have K:=Gp A hk (p:=3) rfl;unfold uu at ht ⊢;rw[aag (by decide),aag (by decide)]at ht ⊢;by_cases h1:s2=190
 ·subst h1;exact⟨S.kk K (by simp[kL,Eu]),.inl A⟩
 rw[aag (λq=>h1 q.2),aag (by decide),aag (by decide)]at ht;exact absurd (vy ht).1 (by decide)
theorem ID(R:zZ r)(h:r<8)(m:Int):zj 72 r m=zj 72 0 m:=by
 unfold zj;rw[aag (show ¬8<=r by omega),aag (show ¬(8:Int)<=0 by decide)]
theorem No(h:¬qe o=0):qe o∈pZ/\kj (qe o)=o /\ ¬qe o=13:=by
 unfold qe at h ⊢;by_cases h1:o=1
 ·subst h1;decide
 by_cases h2:o=41
 ·subst h2;decide
 by_cases h3:o=33
 ·subst h3;decide
 by_cases h4:o=9
 ·subst h4;decide
 by_cases h5:o=49
 ·subst h5;decide
 rw[aag h1,aag h2,aag h3,aag h4,aag h5]at h;exact absurd rfl h
theorem Ll(R:zZ r)(h:¬qe (r*8+1)=0):Z2 (qe (r*8+1))=r/\r<8/\qe (r*8+1)∈pZ /\ ¬qe (r*8+1)=13:=by
 have:=No h
 have e:r*8+1=1\/r*8+1=41\/r*8+1=33\/r*8+1=9\/r*8+1=49:=by
  unfold qe at h;by_cases h1:r*8+1=1
  ·exact .inl h1
  by_cases h2:r*8+1=41
  ·exact .inr (.inl h2)
  by_cases h3:r*8+1=33
  ·exact .inr (.inr (.inl h3))
  by_cases h4:r*8+1=9
  ·exact .inr (.inr (.inr (.inl h4)))
  by_cases h5:r*8+1=49
  ·exact .inr (.inr (.inr (.inr h5)))
  rw[aag h1,aag h2,aag h3,aag h4,aag h5]at h;exact absurd rfl h
 have:r=0\/r=5\/r=4\/r=1\/r=6:=by omega
 rcases this with rfl|rfl|rfl|rfl|rfl <;> decide
theorem P9{s5:Int}(h:s5∈pZ):(⟨8,m,0,s5,0,0,k⟩:zF)∈kL r m k:=aaK _ (aa5 _ (List.mem_map_of_mem (f:=λs=>(⟨8,m,0,s,0,0,k⟩:zF)) h))
theorem F7(hb:yH b)(R:zZ r)(M:zZ m)(A:YP b (0,false) s [zj 72 r m,129,zX r m])(ht:(Wc b ⟨r,m,false,false,0⟩ s).2.2=false):bw b (Wc b ⟨r,m,false,false,0⟩ s):=by
 have t:=Xq r m;have S:UZ b 2 r m:=X2 (base:=72) rfl rfl (.inl rfl) A R M (.inl rfl) t.2.1 t.2.2
 have go:(wa b s).2.2=false->(wa b s).1∈Al b 2/\YP b (0,false) (wa b s).2 ([zj 72 r m,129,zX r m]++xI 4 (wa b s).1):=λh=>by
  obtain⟨q,qs⟩:=XY hb h;have A2:=A.app q;exact⟨Ih A2 qs (.inl rfl),A2⟩
 unfold Wc at ht ⊢;simp only at ht ⊢;by_cases h1:r=7
 ·subst h1;rw[aai rfl]at ht ⊢;obtain⟨K,A2⟩:=go ht;exact⟨S.kk K (by simp[kL,Ig]),.inl (by rw[ID R (by decide)]at A2;exact A2)⟩
 rw[aag h1]at ht ⊢;by_cases h2:m=4/\r=5
 ·obtain⟨rfl,rfl⟩:=h2;rw[aai ⟨rfl,rfl⟩]at ht ⊢;obtain⟨K,A2⟩:=go ht;exact⟨S.kk K (by simp[kL,Ig]),.inl A2⟩
 rw[aag h2]at ht ⊢;by_cases h3:m=4/\r=0
 ·obtain⟨rfl,rfl⟩:=h3;rw[aai ⟨rfl,rfl⟩]at ht ⊢;obtain⟨K,A2⟩:=go ht;exact⟨S.kk K (by simp[kL,Ig]),.inl A2⟩
 rw[aag h3]at ht ⊢;obtain⟨p1,p2⟩:=vy ht;rw[p2]at ht ⊢;obtain⟨K,A2⟩:=go ht;obtain⟨d1,d2,d3,d4⟩:=Ll R (of_decide_eq_false p1);refine⟨S.kk K (P9 d3),.inl ?_⟩;have e:zf ⟨8,m,0,qe (r*8+1),0,0,(wa b s).1⟩ 0=if qe (r*8+1)=13 then [zj 72 m m,105,zX m m]++xI 4 (wa b s).1 else [zj 72 0 m,129,zX (Z2 (qe (r*8+1))) m]++xI 4 (wa b s).1:=rfl;rw[e,aag d4,d1,<- ID R d2];exact A2
theorem E5(hb:yH b)(R:zZ r)(M:zZ m)(ho:¬o=15)(A:YP b (0,false) s [zj 72 r m,o,zX r m])(ht:(singleR b o ⟨r,m,false,false,0⟩ s).2.2=false):bw b (singleR b o ⟨r,m,false,false,0⟩ s):=by
 have t:=Xq r m;have S:UZ b 2 r m:=X2 (base:=72) rfl rfl (.inl rfl) A R M (.inl rfl) t.2.1 t.2.2;unfold singleR at ht ⊢;simp only at ht ⊢;by_cases h1:o=199
 ·subst h1;rw[aai rfl]at ht ⊢;obtain⟨q,qs⟩:=XY hb ht;obtain⟨p1,p2⟩:=vy q.1;have p1:r=0:=by simpa using p1
  subst p1;rw[p2]at q qs ht ⊢;have A2:=A.app q;refine⟨S.kk (Ih A2 qs (.inl rfl)) (by simp[kL,Ig]),.inl ?_⟩;have e:zf ⟨2,m,0,0,0,0,(wa b s).1⟩ 0=if Go.Ar.zS (wa b s).1=true then [zj 72 0 m,199,zX 0 m]++xI 4 (wa b s).1 else [zj 72 0 m,184+m%8]++xI 8 (wa b s).1:=rfl;rw[e,aai qs];exact A2
 rw[aag h1]at ht ⊢;by_cases h2:o=129
 ·subst h2;rw[aai rfl]at ht ⊢;exact F7 hb R M A ht
 rw[aag h2]at ht ⊢;by_cases h3:o=247/\r=2
 ·obtain⟨rfl,rfl⟩:=h3;rw[aai ⟨rfl,rfl⟩];exact⟨S.p0 (by simp[Vt]),.inl A⟩
 rw[aag h3]at ht ⊢;by_cases h4:o=247/\r=3
 ·obtain⟨rfl,rfl⟩:=h4;rw[aai ⟨rfl,rfl⟩];exact⟨S.p0 (by simp[Vt]),.inl A⟩
 rw[aag h4]at ht ⊢;by_cases h5:o=247/\r=7
 ·obtain⟨rfl,rfl⟩:=h5;rw[aai ⟨rfl,rfl⟩];exact⟨S.p0 (by simp[Vt]),.inl A⟩
 rw[aag h5]at ht ⊢;by_cases h6:o=193
 ·subst h6;rw[aai rfl]at ht ⊢;have q:=vp ht;obtain⟨p1,p2⟩:=vy q.1;rw[p2]at q ht ⊢
  have p1:r=4\/r=7:=by
   have:=of_decide_eq_false p1;rcases Classical.em (r=4) with h|h
   ·exact .inl h
   ·exact .inr (Classical.not_not.1 λh7=>this ⟨h,h7⟩)
  have A2:=A.app q;have by3:=WB A2 (i:=3) rfl;have by2:=WB A2 (i:=2) rfl;have by0:=WB A2 (i:=0) rfl;have hz:=K0 hb q _ (aaq.2 rfl);have u:u8 (zw b s).1=(zw b s).1:=by rw[bq];omega
  have em:jW (zT b 2) (zT b 0)=m:=S.2.2.2.symm
  have ing:∀sh,(sh=19\/sh=20)->(⟨11,m,0,sh,0,0,(zw b s).1⟩:zF)∈uL b:=λsh h=>by
   refine aaK _ (aa5 _ ?_);unfold g4;rw[aai (by omega),em,by3.1];rcases h with rfl|rfl <;> simp
  rcases p1 with rfl|rfl
  ·refine⟨ing 19 (.inl rfl),.inl ?_⟩;have e:zf ⟨11,m,0,19,0,0,(zw b s).1⟩ 0=[zj 72 4 m,193,zX 4 m,u8 (zw b s).1]:=rfl;show YP b (0,false) _ (zf ⟨11,m,0,19,0,0,(zw b s).1⟩ 0);rw[e,u];exact A2
  ·refine⟨ing 20 (.inr rfl),.inl ?_⟩;have e:zf ⟨11,m,0,20,0,0,(zw b s).1⟩ 0=[zj 72 7 m,193,zX 7 m,u8 (zw b s).1]:=rfl;show YP b (0,false) _ (zf ⟨11,m,0,20,0,0,(zw b s).1⟩ 0);rw[e,u];exact A2
 rw[aag h6]at ht ⊢;by_cases h7:o=211
 ·subst h7;rw[aai rfl]at ht ⊢;obtain⟨p1,p2⟩:=vy ht;rw[p2]
  have p1:r=4\/r=7:=by
   have:=of_decide_eq_false p1;rcases Classical.em (r=4) with h|h
   ·exact .inl h
   ·exact .inr (Classical.not_not.1 λh7=>this ⟨h,h7⟩)
  rcases p1 with rfl|rfl
  ·exact⟨S.p0 (by simp[Vt]),.inl A⟩
  ·exact⟨S.p0 (by simp[Vt]),.inl A⟩
 rw[aag h7]at ht;exact absurd (vy ht).1 (by decide)
theorem zau(hb:yH b)(R:zZ r)(M:zZ m)(ho:¬o=15)(A:YP b (0,false) s [zj 72 r m,o,zX r m])(ht:(qL b o s2 ⟨r,m,false,false,0⟩ s).2.2=false):bw b (qL b o s2 ⟨r,m,false,false,0⟩ s):=by
 have t:=Xq r m;have S:UZ b 2 r m:=X2 (base:=72) rfl rfl (.inl rfl) A R M (.inl rfl) t.2.1 t.2.2;unfold qL at ht ⊢;simp only at ht ⊢;by_cases h0:qe o=0
 ·rw[aag (not_not_intro h0)]at ht ⊢;by_cases h1:o=137
  ·subst h1;exact⟨S.p0 (by simp[Vt]),.inl A⟩
  rw[aag h1]at ht ⊢;by_cases h2:o=99
  ·subst h2;exact⟨S.p0 (by simp[Vt]),.inl A⟩
  rw[aag h2]at ht ⊢;by_cases h3:o=57
  ·subst h3;exact⟨S.p0 (by simp[Vt]),.inl A⟩
  rw[aag h3]at ht ⊢;by_cases h4:o=105
  ·subst h4;rw[aai rfl]at ht ⊢;obtain⟨q,qs⟩:=XY hb ht;obtain⟨p1,p2⟩:=vy q.1;have p1:r=m:=by simpa using p1
   subst p1;rw[p2]at q qs ht ⊢;have A2:=A.app q;exact⟨S.kk (Ih A2 qs (.inl rfl)) (by simp[kL,Ig]),.inl A2⟩
  rw[aag h4,aag ho]at ht ⊢;exact E5 hb R M ho A ht
 ·rw[aai h0]at ht ⊢;obtain⟨a1,a2,a3⟩:=No h0;refine⟨S.Lj a1,.inl ?_⟩;have e:zf ⟨7,m,r,qe o,0,0,0⟩ 0=if qe o=13 then [zj 72 m r,15,175,zX m r] else [zj 72 r m,kj (qe o),zX r m]:=rfl;rw[e,aag a3,a2];exact A
theorem zav(R:zZ r)(M:zZ m)(A:YP b (0,false) s [zj 72 r m,15,s2,zX r m])(ht:(qL b 15 s2 ⟨r,m,false,false,0⟩ s).2.2=false):bw b (qL b 15 s2 ⟨r,m,false,false,0⟩ s):=by
 have t:=Xq r m;have S:UZ b 3 r m:=X2 (base:=72) rfl rfl (.inr rfl) A R M (.inl rfl) t.2.1 t.2.2;have e:qL b 15 s2 ⟨r,m,false,false,0⟩ s=if s2=175 then (⟨7,r,m,13,0,0,0⟩,s) else if s2=190 then (⟨10,r,m,3,0,0,0⟩,s) else (YN,zU true s):=rfl;rw[e]at ht ⊢;by_cases h1:s2=175
 ·subst h1;exact⟨S.p0 (by simp[Vt]),.inl A⟩
 rw[aag h1]at ht ⊢;by_cases h2:s2=190
 ·subst h2;exact⟨S.p0 (by simp[Vt]),.inl A⟩
 rw[aag h2]at ht;exact absurd (vy ht).1 (by decide)
end
section
variable {b:List Int}{t s:RS}{xs:List Int}{x:zF}{w o z k r m s2:Int}{p:Nat}
inductive Kt:zF->Prop
 |jmp:Kt ⟨18,0,0,0,0,0,0⟩
 |call:Kt ⟨21,0,0,0,0,0,0⟩
 |jcc (cc:Int):21<=cc->cc<=26->Kt ⟨19,0,0,0,cc,0,0⟩
 |r8 (r:Int):zZ r->Kt ⟨6,r,0,0,0,0,0⟩
def za2(b:List Int)(q:zF×RS):Prop := ∃y d,Kt y/\Go.Ar.zS d=true/\q.1 = {y with k:=d} /\ YP b (0,false) q.2 (zf y d)
def Read(b:List Int)(far:Bool)(q:zF×RS):Prop:=if far=true then za2 b q else bw b q
theorem V3{q:zF×RS}(h:bw b q)(h6:¬q.1.op=6):Read b (decide (q.1.op=6)) q:=by
 unfold Read;rw[aag (by simpa using h6)];exact h
theorem tM(o s2:Int)(d:lC)(s:RS):¬(uu o s2 d s).1.op=6:=by
 unfold uu
 repeat' split
 all_goals simp
theorem Mp(b:List Int)(o:Int)(d:lC)(s:RS):¬(singleR b o d s).1.op=6:=by
 unfold singleR Wc
 repeat' split
 all_goals simp[YN]
theorem Ix(b:List Int)(o s2:Int)(d:lC)(s:RS):¬(qL b o s2 d s).1.op=6:=by
 unfold qL
 repeat' split
 all_goals first
  |exact Mp _ _ _ _
  |simp[YN]
theorem vW{c:Bool}(h:(zU c s).2=false):s.2=false:=by
 have:=(vy h).2
 rwa [this]at h
theorem aq(h:(wa b s).2.2=false):s.2=false:=(Jl 4 h).1.1
theorem Dx{d:lC}(ht:(uu o s2 d s).2.2=false):s.2=false:=by
 unfold uu at ht
 repeat' split at ht
 all_goals first
  |exact ht
  |exact vW ht
theorem F8{d:lC}(ht:(Wc b d s).2.2=false):s.2=false:=by
 unfold Wc at ht;simp only at ht
 repeat' split at ht
 all_goals first
  |exact aq ht
  |exact aq (vW ht)
theorem E6{d:lC}(ht:(singleR b o d s).2.2=false):s.2=false:=by
 unfold singleR at ht
 repeat' split at ht
 all_goals first
  |exact ht
  |exact F8 ht
  |exact vW (aq ht)
  |exact vW (vp ht).1
  |exact vW ht
theorem Md{d:lC}(ht:(qL b o s2 d s).2.2=false):s.2=false:=by
 unfold qL at ht
 repeat' split at ht
 all_goals first
  |exact ht
  |exact E6 ht
  |exact vW (aq ht)
  |exact vW ht
def Ph(b:List Int)(o s2:Int)(q:lC×RS):zF×RS :=
 if q.1.place=true then (⟨6,q.1.reg,0,0,0,0,q.1.k⟩,zU (decide (¬o=141)) q.2)
 else if q.1.memory=true then uu o s2 q.1 q.2
 else qL b o s2 q.1 q.2
theorem tU:uE b w o s2 s=Ph b o s2 (ur b w s):=rfl
theorem Yf(ht:(uE b w o s2 s).2.2=false):(ur b w s).2.2=false:=by
 unfold uE at ht;simp only at ht;split at ht
 ·exact vW ht
 split at ht
 ·exact Dx ht
 ·exact Md ht
theorem L1{z:Int}(hw:w=72\/w=73\/w=76\/w=77)(h0:0<=z)(h1:z<64)(z5:z%8=5)(w1:¬w%2=1):zj 72 (ql z w) 0=w/\5+ql z w%8*8=z:=by
 have r1:8<=ql z w ↔ w/4%2=1:=by unfold ql;split <;> omega
 refine⟨?_,by rw[(ft z w).1];omega⟩;unfold zj;rw[aag (show ¬(8:Int)<=0 by decide)];split <;> omega
theorem NC(hb:yH b)(hw:w=72\/w=73\/w=76\/w=77)(ho:¬o=15)(A:YP b (0,false) s [w,o])(ht:(uE b w o s2 s).2.2=false):Read b (decide ((uE b w o s2 s).1.op=6)) (uE b w o s2 s):=by
 have hw':w=72\/w=72+1\/w=72+4\/w=72+5:=hw;have Q:=US hb (Yf ht);rw[tU]at ht ⊢
 revert Q ht
 generalize ur b w s=q;obtain⟨d,t⟩:=q;intro ht Q;unfold Ph at ht ⊢;simp only at ht Q ⊢;cases Q with
 |two z h0 h1 h3 q=>
  rw[aag (by simp),aag (by simp)]at ht ⊢;have B:=Jq (w:=w) h0 h1;have A2:=A.app q;refine V3 (zau hb B.1 B.2 ho ?_ ht) (Ix _ _ _ _ _);rw[UT h0 h1 hw' (by decide),rG h0 h1 h3];exact A2
 |mem z k h0 h1 h2 hk q=>
  rw[aag (by simp),aai rfl]at ht ⊢;have B:=Jq (w:=w) h0 h1;have A2:=A.app q;refine V3 (Ni B.1 B.2 hk ho ?_ ht) (tM _ _ _ _);rw[UT h0 h1 hw' (by decide)];exact A2
 |place z k h0 h1 h5 hw1 hk q=>
  rw[aai rfl]at ht ⊢;obtain⟨p1,p2⟩:=vy ht;have p1:o=141:=by simpa using p1
  subst p1;rw[p2];have A2:=A.app q;have l:=L1 hw h0 h1 h5 hw1;refine⟨⟨6,ql z w,0,0,0,0,0⟩,k,.r8 _ (Jq h0 (by omega)).1,hk,rfl,?_⟩;have e:zf ⟨6,ql z w,0,0,0,0,0⟩ k=[zj 72 (ql z w) 0,141,5+ql z w%8*8]++xI 4 k:=rfl;rw[e,l.1,l.2];exact A2
theorem ND(hb:yH b)(hw:w=72\/w=73\/w=76\/w=77)(A:YP b (0,false) s [w,15,s2])(ht:(uE b w 15 s2 s).2.2=false):Read b (decide ((uE b w 15 s2 s).1.op=6)) (uE b w 15 s2 s):=by
 have hw':w=72\/w=72+1\/w=72+4\/w=72+5:=hw;have Q:=US hb (Yf ht);rw[tU]at ht ⊢
 revert Q ht
 generalize ur b w s=q;obtain⟨d,t⟩:=q;intro ht Q;unfold Ph at ht ⊢;simp only at ht Q ⊢;cases Q with
 |two z h0 h1 h3 q=>
  rw[aag (by simp),aag (by simp)]at ht ⊢;have B:=Jq (w:=w) h0 h1;have A2:=A.app q;refine V3 (zav B.1 B.2 ?_ ht) (Ix _ _ _ _ _);rw[UT h0 h1 hw' (by decide),rG h0 h1 h3];exact A2
 |mem z k h0 h1 h2 hk q=>
  rw[aag (by simp),aai rfl]at ht ⊢;have B:=Jq (w:=w) h0 h1;have A2:=A.app q;refine V3 (Nj B.1 B.2 hk ?_ ht) (tM _ _ _ _);rw[UT h0 h1 hw' (by decide)];exact A2
 |place z k h0 h1 h5 hw1 hk q=>
  rw[aai rfl]at ht;exact absurd (vy ht).1 (by decide)
theorem H5(h:x∈aF):x∈uL b:=aa5 _ h
theorem Ms(hb:yH b)(hw:w=72\/w=73\/w=76\/w=77)(A:YP b (0,false) s [w])(ht:(ZM b w s).2.2=false):Read b (decide ((ZM b w s).1.op=6)) (ZM b w s):=by
 unfold ZM at ht ⊢;simp only at ht ⊢;by_cases h1:184<=(zw b s).1/\(zw b s).1<=191
 ·rw[aai h1]at ht ⊢;refine V3 ?_ (by simp);simp only at ht;obtain⟨q,xs,q2,q3,q4⟩:=OH hb ht;obtain⟨p1,p2⟩:=vy q.1;rw[p2]at q q2 q4 ht ⊢;have q1:=vp q.1
  have w1:w=72\/w=73:=by
   have:=of_decide_eq_false p1;omega
  have A1:=A.app q1;have A2:=A1.app q;have A3:=A1.app q2;have b1:=WB A2 (i:=1) rfl;have b0:=WB A2 (i:=0) rfl;have hl:=A2.ge
  have er:zj 72 0 ((zw b s).1-184+w%2*8)=w:=by
   unfold zj;rw[aag (show ¬(8:Int)<=0 by decide)];split <;> omega
  have eo:184+((zw b s).1-184+w%2*8)%8=(zw b s).1:=by omega
  refine⟨?_,?_⟩
  ·refine aaK _ (aaK _ (aa5 _ ?_));unfold Fi;have:10<=b.length:=by rw[aar,wQ]at hl;exact hl
   rw[aai this,b1.1,b0.1]
   have e2:(b.drop 2).take 8=xs:=by
    rw[A3.all,aa7];exact List.take_left' q3
   have e3:jW (zw b s).1 w=(zw b s).1-184+w%2*8:=by
    unfold jW;split <;> omega
   rw[e2,<- q4,e3];exact aaq.2 rfl
  ·have e:V4 ⟨2,(zw b s).1-184+w%2*8,0,0,0,0,(WH b (zw b s).2).1⟩=[w,(zw b s).1]++xI 8 (WH b (zw b s).2).1:=by
    unfold V4;simp only[er,eo]
   by_cases hs:Go.Ar.zS (WH b (zw b s).2).1=true
   ·refine .inr ⟨rfl,hs,?_⟩;show YP b (0,false) _ (V4 ⟨2,_,0,0,0,0,_⟩);rw[e];exact A2
   ·refine .inl ?_;have e0:∀r k:Int,zf ⟨2,r,0,0,0,0,k⟩ 0=if Go.Ar.zS k=true then [zj 72 0 r,199,zX 0 r]++xI 4 k else V4 ⟨2,r,0,0,0,0,k⟩:=λ_ _=>rfl;show YP b (0,false) _ (zf ⟨2,_,0,0,0,0,_⟩ 0);rw[e0,aag hs,e];exact A2
 rw[aag h1]at ht ⊢
 have one:∀(y:zF) (o:Int),(zw b s).1=o->y∈aF->zf y 0=[72,o]->(zU (decide (¬w=72)) (zw b s).2).2=false->bw b (y,zU (decide (¬w=72)) (zw b s).2):=λy o ho hy hby h=>by
  obtain⟨p1,p2⟩:=vy h;rw[p2]at h ⊢;have p1:w=72:=by simpa using p1
  subst p1;have A1:=A.app (vp h);rw[ho]at A1;exact⟨H5 hy,.inl (by show YP b (0,false) _ (zf y 0);rw[hby];exact A1)⟩
 by_cases h2:(zw b s).1=153
 ·rw[aai h2]at ht ⊢;exact V3 (one _ _ h2 (by simp[aF]) rfl ht) (by simp)
 rw[aag h2]at ht ⊢;by_cases h3:(zw b s).1=237
 ·rw[aai h3]at ht ⊢;exact V3 (one _ _ h3 (by simp[aF]) rfl ht) (by simp)
 rw[aag h3]at ht ⊢;by_cases h4:(zw b s).1=239
 ·rw[aai h4]at ht ⊢;exact V3 (one _ _ h4 (by simp[aF]) rfl ht) (by simp)
 rw[aag h4]at ht ⊢
 have XZ:∀{s:RS},(ur b w s).2.2=false->s.2=false:=λ{s} h=>by
  have Q:=US hb h
  revert Q
  generalize (ur b w s).1=d;intro Q;cases Q with
  |two z h0 h1 h3 q=>exact q.1
  |mem z k h0 h1 h2 hk q=>exact q.1
  |place z k h0 h1 h5 hw1 hk q=>exact q.1
 by_cases h5:(zw b s).1=15
 ·rw[aai h5]at ht ⊢;have m:=XZ (Yf ht);have a2:=vp m;have A2:=(A.app (vp a2.1)).app a2;rw[h5]at A2 ht ⊢;exact ND hb hw A2 ht
 rw[aag h5]at ht ⊢;have m:=XZ (Yf ht);exact NC hb hw h5 (A.app (vp m)) ht
end
section
variable {b:List Int}{t s:RS}{xs:List Int}{x:zF}{w o z k r m s2:Int}{p:Nat}
theorem ry:∀(zs:List Int) (s:RS),(ZL b zs s).2=false->YP b s (ZL b zs s) zs
 |[],s,h=>YP.nil h
 |z::zs,s,h=>by
  have q:=ry zs _ h;obtain⟨p1,p2⟩:=vy q.1
  have e:ZL b (z::zs) s=ZL b zs (zw b s).2:=by
   show ZL b zs (zU _ _)=_;rw[p2]
  have p1:(zw b s).1=z:=by simpa using p1
  rw[p2]at q;have a:=vp q.1;rw[p1]at a;rw[e];exact a.app q
theorem oU(ht:(jR z s).2.2=false):∃cc,jR z s=(cc,s)/\21<=cc/\cc<=26/\vA cc=z:=by
 unfold jR at ht ⊢;cases h:K7 z with
 |none=>rw[h]at ht;exact absurd (vy ht).1 (by decide)
 |some cc=>
  have:=Rs h;exact⟨cc,rfl,this⟩
theorem t8{cc base:Int}(h0:0<=z)(h1:z<256)(hb:base=144\/base=128)(h:vA cc=u8 (z-base)):base+vA cc=z:=by
 have cb:=eF cc;rw[bq]at h;omega
theorem HC(hb:yH b)(h:YP b s t [z]):0<=z/\z<256:=K0 hb h _ (aaq.2 rfl)
theorem O9(hb:yH b)(hw:w=64\/w=64+1\/w=64+4\/w=64+5)(A:YP b (0,false) s [w,15])(ht:(B9 b w s).2.2=false):bw b (B9 b w s):=by
 unfold B9 at ht ⊢;simp only at ht ⊢;have q:=ry _ _ ht;obtain⟨p1,p2⟩:=vy q.1;rw[p2]at q;rw[p2];have Q:=US hb q.1
 have c0:(jR (u8 ((zw b s).1-144)) (zw b s).2).2.2=false:=by
  revert Q
  generalize (ur b w (jR (u8 ((zw b s).1-144)) (zw b s).2).2).1=d;intro Q;cases Q with
  |two z h0 h1 h3 q=>exact q.1
  |mem z k h0 h1 h2 hk q=>exact q.1
  |place z k h0 h1 h5 hw1 hk q=>exact q.1
 obtain⟨cc,e,c1,c2,c3⟩:=oU c0;rw[e]at c0 Q q p1 ⊢;simp only at Q q p1 c0 ⊢;have a:=vp c0;have zb:=HC hb a;have c4:=t8 zb.1 zb.2 (.inl rfl) c3;have A1:=A.app a
 revert Q q p1
 generalize ur b w (zw b s).2=g;obtain⟨d,t⟩:=g;intro p1 q Q;simp only at q p1 Q ⊢;cases Q with
 |two z h0 h1 h3 qq=>
  simp only[acz,aam,Classical.not_not]at p1;have er:=UT h0 h1 hw (by decide);have ez:=rG (w:=w) h0 h1 h3;have B:=Jq (w:=w) h0 h1;rw[p1]at er ez;have A2:=(A1.app qq).app q;have S:UZ b 3 0 (jW z w):=X2 (xs:=[w,15]++[(zw b s).1]++[z]++[zj 72 (jW z w) (jW z w),15,182,zX (jW z w) (jW z w)]) (base:=64) (by rw[er];rfl) rfl (.inr rfl) A2 (by unfold zZ;decide) B.2 (.inr rfl) (by have:=(Xq 0 (jW z w)).2.1;rw[ez]at this;exact this) (by have:=(Xq 0 (jW z w)).2.2;rw[ez]at this;exact this);refine⟨S.set c1 c2,.inl ?_⟩;have e:zf ⟨17,jW z w,0,0,cc,0,0⟩ 0=[zj 64 0 (jW z w),15,144+vA cc,zX 0 (jW z w),zj 72 (jW z w) (jW z w),15,182,zX (jW z w) (jW z w)]:=rfl;rw[e,er,c4,ez];exact A2
 |mem z k h0 h1 h2 hk qq=>simp at p1
 |place z k h0 h1 h5 hw1 hk qq=>simp at p1
theorem Pf(hb:yH b)(hw:w=64\/w=64+1\/w=64+4\/w=64+5)(ho:o=136\/o=137)(A:YP b (0,false) s [w,o]){d:lC}{t:RS}(Q:(zU (!d.memory) t).2=false->MD b w s t d)(ht:(zU (!d.memory) t).2=false) :
  bw b (⟨4,d.reg,d.rm,if o=136 then 1 else 4,0,0,d.k⟩,zU (!d.memory) t):=by
 obtain⟨p1,p2⟩:=vy ht;have Q:=Q ht;rw[p2];cases Q with
 |two z h0 h1 h3 q=>simp at p1
 |place z k h0 h1 h5 hw1 hk q=>simp at p1
 |mem z k h0 h1 h2 hk q=>
  have B:=Jq (w:=w) h0 h1;have A2:=A.app q;have er:=UT h0 h1 hw (by decide);have tp:=V1 (ql z w) (jW z w);have S:UZ b 2 (ql z w) (jW z w):=X2 (xs:=[w,o]++uK (ql z w) (jW z w) k) (base:=64) (by rw[er];rfl) (show(uK (ql z w) (jW z w) k)[0]? = _ from Oz) (.inl rfl) A2 B.1 B.2 (.inr rfl) tp.2.1 tp.2.2;have K:=Gp A2 hk (p:=2) rfl;rcases ho with rfl|rfl
  ·refine⟨S.kk K (by simp[kL,Eu]),.inl ?_⟩;have e:zf ⟨4,ql z w,jW z w,1,0,0,k⟩ 0=[zj 64 (ql z w) (jW z w),136]++uK (ql z w) (jW z w) k:=rfl;show YP b (0,false) t (zf ⟨4,ql z w,jW z w,1,0,0,k⟩ 0);rw[e,er];exact A2
  ·refine⟨S.kk K (by simp[kL,Eu]),.inl ?_⟩;have e:zf ⟨4,ql z w,jW z w,4,0,0,k⟩ 0=[zj 64 (ql z w) (jW z w),137]++uK (ql z w) (jW z w) k:=rfl;show YP b (0,false) t (zf ⟨4,ql z w,jW z w,4,0,0,k⟩ 0);rw[e,er];exact A2
theorem XZ(hb:yH b)(h:(ur b w s).2.2=false):s.2=false:=by
 have Q:=US hb h
 revert Q
 generalize (ur b w s).1=d;intro Q;cases Q with
 |two z h0 h1 h3 q=>exact q.1
 |mem z k h0 h1 h2 hk q=>exact q.1
 |place z k h0 h1 h5 hw1 hk q=>exact q.1
theorem E4(hb:yH b)(ht:(B9 b w s).2.2=false):(zw b s).2.2=false:=by
 unfold B9 at ht;simp only at ht;have q:=XZ hb (vW (ry _ _ ht).1);obtain⟨cc,e,_⟩:=oU q;rw[e]at q;exact q
theorem EC(hb:yH b)(hw:w=64\/w=65\/w=68\/w=69)(A:YP b (0,false) s [w])(ht:(jC b w s).2.2=false):bw b (jC b w s):=by
 have hw':w=64\/w=64+1\/w=64+4\/w=64+5:=hw;unfold jC at ht ⊢;simp only at ht ⊢;by_cases h1:(zw b s).1=136\/(zw b s).1=137
 ·rw[aai h1]at ht ⊢;simp only at ht;have m:=XZ hb (vW ht);have a:=vp m;exact Pf hb hw' h1 (A.app a) (λh=>US hb (vW h)) ht
 rw[aag h1]at ht ⊢;by_cases h2:(zw b s).1=15
 ·rw[aai h2]at ht ⊢;have m:(zw b s).2.2=false:=(vp (E4 hb ht)).1;have a:=A.app (vp m);rw[h2]at a;exact O9 hb hw' a ht
 rw[aag h2]at ht;exact absurd (vy ht).1 (by decide)
theorem Mt(hb:yH b)(ht:(ZM b w s).2.2=false):s.2=false:=by
 have nx:∀{s:RS},(zw b s).2.2=false->s.2=false:=λh=>(vp h).1;have n8:∀{s:RS},(WH b s).2.2=false->s.2=false:=λh=>(Jl 8 h).1.1;unfold ZM at ht;simp only at ht
 repeat' split at ht
 all_goals first
  |exact nx (vW (n8 ht))
  |exact nx (vW ht)
  |exact nx (nx (XZ hb (Yf ht)))
  |exact nx (XZ hb (Yf ht))
theorem ED(hb:yH b)(ht:(jC b w s).2.2=false):s.2=false:=by
 have nx:∀{s:RS},(zw b s).2.2=false->s.2=false:=λh=>(vp h).1;unfold jC at ht;simp only at ht
 repeat' split at ht
 all_goals first
  |exact nx (XZ hb (vW ht))
  |exact nx (nx (E4 hb ht))
  |exact nx (vW ht)
theorem eQ(hb:yH b)(ht:(xH b).2.2.2=false):Read b (xH b).2.1 ((xH b).1,(xH b).2.2):=by
 have far:∀{q:zF×RS},za2 b q->Read b true q:=λh=>by unfold Read;rw[aai rfl];exact h
 have near:∀{q:zF×RS},bw b q->Read b false q:=λh=>by unfold Read;rw[aag (by decide)];exact h
 unfold xH at ht ⊢;simp only at ht ⊢;by_cases h1:(zw b (0,false)).1=233
 ·rw[aai h1]at ht ⊢;obtain⟨q,qs⟩:=XY hb ht;have a:=vp q.1;rw[h1]at a;exact far ⟨_,_,.jmp,qs,rfl,a.app q⟩
 rw[aag h1]at ht ⊢;by_cases h2:(zw b (0,false)).1=232
 ·rw[aai h2]at ht ⊢;obtain⟨q,qs⟩:=XY hb ht;have a:=vp q.1;rw[h2]at a;exact far ⟨_,_,.call,qs,rfl,a.app q⟩
 rw[aag h2]at ht ⊢;by_cases h3:(zw b (0,false)).1=15
 ·rw[aai h3]at ht ⊢;obtain⟨q,qs⟩:=XY hb ht;obtain⟨cc,e,c1,c2,c3⟩:=oU q.1;simp only[e]at q qs ⊢;have a2:=vp q.1;have zb:=HC hb a2;have c4:=t8 zb.1 zb.2 (.inr rfl) c3;have a:=vp a2.1;rw[h3]at a;refine far ⟨⟨19,0,0,0,cc,0,0⟩,_,.jcc cc c1 c2,qs,rfl,?_⟩;have e:∀d,zf ⟨19,0,0,0,cc,0,0⟩ d=[15,128+vA cc]++xI 4 d:=λ_=>rfl;rw[e,c4];exact(a.app a2).app q
 rw[aag h3]at ht ⊢;by_cases h4:(zw b (0,false)).1=195
 ·rw[aai h4]at ht ⊢;have a:=vp ht;rw[h4]at a;exact near ⟨H5 (by simp[aF]),.inl a⟩
 rw[aag h4]at ht ⊢;by_cases h5:(zw b (0,false)).1=72\/(zw b (0,false)).1=73\/(zw b (0,false)).1=76\/(zw b (0,false)).1=77
 ·rw[aai h5]at ht ⊢;exact Ms hb h5 (vp (Mt hb ht)) ht
 rw[aag h5]at ht ⊢;by_cases h6:(zw b (0,false)).1=64\/(zw b (0,false)).1=65\/(zw b (0,false)).1=68\/(zw b (0,false)).1=69
 ·rw[aai h6]at ht ⊢;exact near (EC hb h6 (vp (ED hb ht)) ht)
 rw[aag h6]at ht;exact absurd (vy ht).1 (by decide)
end
open Go.Ar (ym zS)
inductive Shape:zF->Prop
 |mov (r m:Int):Shape ⟨1,r,m,0,0,0,0⟩
 |movk (r k:Int):Go.Mem.aG k->Shape ⟨2,r,0,0,0,0,k⟩
 |load (r m s k:Int):Shape ⟨3,r,m,s,0,0,k⟩
 |AK (r m s k:Int):Shape ⟨4,r,m,s,0,0,k⟩
 |lea (r m k:Int):Shape ⟨5,r,m,0,0,0,k⟩
 |Lj (r m s:Int):Shape ⟨7,r,m,s,0,0,0⟩
 |aluk (r s k:Int):Shape ⟨8,r,0,s,0,0,k⟩
 |un (r s:Int):Shape ⟨9,r,0,s,0,0,0⟩
 |ext (r m s:Int):Shape ⟨10,r,m,s,0,0,0⟩
 |shift (r s k:Int):Shape ⟨11,r,0,s,0,0,k⟩
 |shiftc (r s:Int):Shape ⟨12,r,0,s,0,0,0⟩
 |cqo:Shape ⟨13,0,0,0,0,0,0⟩
 |idiv (m:Int):Shape ⟨14,0,m,0,0,0,0⟩
 |cmp (r m:Int):Shape ⟨15,r,m,0,0,0,0⟩
 |cmpk (r k:Int):Shape ⟨16,r,0,0,0,0,k⟩
 |set (r cc:Int):Shape ⟨17,r,0,0,cc,0,0⟩
 |ret:Shape ⟨22,0,0,0,0,0,0⟩
 |enter (k:Int):Shape ⟨23,0,0,0,0,0,k⟩
 |leave (k:Int):Shape ⟨24,0,0,0,0,0,k⟩
 |inI:Shape ⟨25,0,0,0,0,0,0⟩
 |outI:Shape ⟨26,0,0,0,0,0,0⟩
theorem Aj(n:Int):Go.Mem.aG (IntKind.wrap .i64 n):=by
 unfold Go.Mem.aG;simp only[IntKind.wrap,IntKind.bits,IntKind.signed];simp;split <;> omega
theorem BH(bs:List Int):Go.Mem.aG (XV bs)/\Go.Mem.aG (VW bs):=⟨Aj _,Aj _⟩
section
variable {b:List Int}{x:zF}{r m k:Int}
theorem Me(h:x∈Vt r m):Shape x:=by
 simp only[Vt,aaP,abG,acA]at h;rcases h with rfl|rfl|rfl|rfl|rfl|rfl|rfl|rfl|rfl|rfl
 ·exact .mov _ _
 ·exact .cmp _ _
 ·exact .idiv _
 ·exact .ext _ _ _
 ·exact .ext _ _ _
 ·exact .un _ _
 ·exact .un _ _
 ·exact .shiftc _ _
 ·exact .shiftc _ _
 ·exact .Lj _ _ _
theorem Oj(hk:Go.Mem.aG k)(h:x∈kL r m k):Shape x:=by
 unfold kL at h;rcases aaG.1 h with h|h
 ·rcases aaG.1 h with h|h
  ·simp only[Ig,aaP,abG,acA]at h;rcases h with rfl|rfl|rfl|rfl|rfl|rfl
   ·exact .movk _ _ hk
   ·exact .cmpk _ _
   ·exact .lea _ _ _
   ·exact .enter _
   ·exact .leave _
   ·exact .aluk _ _ _
  ·unfold Oi at h;obtain⟨s,_,rfl⟩:=aa4.1 h;exact .aluk _ _ _
 ·unfold Eu at h;obtain⟨s,_,h⟩:=List.mem_flatMap.1 h;simp only[aaP,abG,acA]at h;rcases h with rfl|rfl
  ·exact .load _ _ _ _
  ·exact .AK _ _ _ _
theorem lu{ks:List Int}(hk:∀k,k∈ks->Go.Mem.aG k)(h:x∈Jo r m ks):Shape x:=by
 unfold Jo at h;rcases aaG.1 h with h|h
 ·rcases aaG.1 h with h|h
  ·rcases aaG.1 h with h|h
   ·exact Me h
   ·unfold rQ at h;obtain⟨s,_,rfl⟩:=aa4.1 h;exact .Lj _ _ _
  ·unfold rA at h;obtain⟨s,_,rfl⟩:=aa4.1 h;exact .set _ _
 ·obtain⟨k,h1,h2⟩:=List.mem_flatMap.1 h;exact Oj (hk k h1) h2
theorem Tf{p:Nat}(h:k∈Al b p):Go.Mem.aG k:=by
 unfold Al at h;rcases aaG.1 h with h|h
 ·split at h
  ·rw[aaq.1 h];exact(BH _).1
  ·cases h
 ·split at h
  ·rw[aaq.1 h];exact(BH _).1
  ·cases h
theorem VV(h:x∈uL b):Shape x:=by
 unfold uL at h;rcases aaG.1 h with h|h
 ·rcases aaG.1 h with h|h
  ·rcases aaG.1 h with h|h
   ·unfold g3 at h;split at h
    ·rcases aaG.1 h with h|h
     ·exact lu (λk=>Tf) h
     ·split at h
      ·exact lu (λk=>Tf) h
      ·cases h
    ·cases h
   ·unfold Fi at h;split at h
    ·rw[aaq.1 h];exact .movk _ _ (BH _).2
    ·cases h
  ·unfold g4 at h;split at h
   ·simp only[aaP,abG,acA]at h;rcases h with rfl|rfl <;> exact .shift _ _ _
   ·cases h
 ·simp only[aF,aaP,abG,acA]at h;rcases h with rfl|rfl|rfl|rfl
  ·exact .cqo
  ·exact .ret
  ·exact .inI
  ·exact .outI
theorem Rj(S:Shape x)(h:ym x=true):Ym x \/ ∃r k,x=⟨2,r,0,0,0,0,k⟩/\zZ r/\Go.Mem.aG k /\ ¬zS k=true:=by
 unfold ym at h;simp only[aad,aan,aam]at h;obtain⟨_,_,h3,h4,h5,h6,h7⟩:=h;unfold Go.Ar.WJ at h3;unfold Go.Ar.Vs at h4;unfold Go.Ar.Jv at h5;unfold Go.Ar.tailD at h7
 have R:∀{op:Int},x.op=op->Go.As.sd op=true->zZ x.r:=λe1 e2=>by
  rw[e1,e2,abq,aan,aba,aam,aam]at h3;unfold zZ;omega
 have M:∀{op:Int},x.op=op->Go.As.cN op=true->zZ x.m:=λe1 e2=>by
  rw[e1,e2,abq,aan,aba,aam,aam]at h4;unfold zZ;omega
 have W:∀{op:Int},x.op=op->Go.As.Un op=true->¬x.r=4:=λe1 e2=>by
  rw[e1,e2,abq,aan,aam]at h5;exact h5
 have sm:∀k:Int,0<=k->k<=65536->zS k=true:=λk a b=>by
  unfold zS;rw[aad,aaF,aaF];omega
 cases S with
 |mov r m=>exact .inl (.mov r m (R rfl rfl) (M rfl rfl))
 |movk r k hk=>
  by_cases hs:zS k=true
  ·exact .inl (.movk r k (R rfl rfl) hs)
  ·exact .inr ⟨r,k,rfl,R rfl rfl,hk,hs⟩
 |load r m s k=>
  simp at h7;rcases h7.1 with rfl|rfl|rfl
  ·exact .inl (.load1 r m k (R rfl rfl) (M rfl rfl) h7.2)
  ·exact .inl (.load4 r m k (R rfl rfl) (M rfl rfl) h7.2)
  ·exact .inl (.load8 r m k (R rfl rfl) (M rfl rfl) h7.2)
 |AK r m s k=>
  simp at h7;rcases h7.1 with rfl|rfl|rfl
  ·exact .inl (.sto1 r m k (R rfl rfl) (M rfl rfl) h7.2)
  ·exact .inl (.sto4 r m k (R rfl rfl) (M rfl rfl) h7.2)
  ·exact .inl (.sto8 r m k (R rfl rfl) (M rfl rfl) h7.2)
 |lea r m k=>simp at h7;exact .inl (.lea r m k (R rfl rfl) (M rfl rfl) h7)
 |Lj r m s=>
  simp[Go.As.kj]at h7;rcases h7 with rfl|rfl|rfl|rfl|rfl|rfl
  ·exact .inl (.Lj r m _ (R rfl rfl) (M rfl rfl) (by decide))
  ·exact .inl (.Lj r m _ (R rfl rfl) (M rfl rfl) (by decide))
  ·exact .inl (.mul r m (R rfl rfl) (M rfl rfl))
  ·exact .inl (.Lj r m _ (R rfl rfl) (M rfl rfl) (by decide))
  ·exact .inl (.Lj r m _ (R rfl rfl) (M rfl rfl) (by decide))
  ·exact .inl (.Lj r m _ (R rfl rfl) (M rfl rfl) (by decide))
 |aluk r s k=>
  simp[Go.As.kj]at h7;have w:¬r=4:=W rfl rfl;rcases h7.1 with rfl|rfl|rfl|rfl|rfl|rfl
  ·exact .inl (.aluk r k _ (R rfl rfl) w h7.2 (by decide))
  ·exact .inl (.aluk r k _ (R rfl rfl) w h7.2 (by decide))
  ·exact .inl (.mulk r k (R rfl rfl) h7.2)
  ·exact .inl (.aluk r k _ (R rfl rfl) w h7.2 (by decide))
  ·exact .inl (.aluk r k _ (R rfl rfl) w h7.2 (by decide))
  ·exact .inl (.aluk r k _ (R rfl rfl) w h7.2 (by decide))
 |un r s=>simp at h7;exact .inl (.un r s (R rfl rfl) h7)
 |ext r m s=>
  simp at h7;rcases h7 with rfl|rfl
  ·exact .inl (.ext3 r m (R rfl rfl) (M rfl rfl))
  ·exact .inl (.ext4 r m (R rfl rfl) (M rfl rfl))
 |shift r s k=>simp at h7;exact .inl (.shift r k s (R rfl rfl) h7.2.1 (by omega) h7.1)
 |shiftc r s=>simp at h7;exact .inl (.shiftc r s (R rfl rfl) h7)
 |cqo=>exact .inl .cqo
 |idiv m=>exact .inl (.idiv m (M rfl rfl))
 |cmp r m=>exact .inl (.cmp r m (R rfl rfl) (M rfl rfl))
 |cmpk r k=>simp at h7;exact .inl (.cmpk r k (R rfl rfl) h7)
 |set r cc=>simp[Go.As.Yz]at h7;exact .inl (.set r cc (R rfl rfl) h7.1 h7.2)
 |ret=>exact .inl .ret
 |enter k=>simp at h7;exact .inl (.enter k (sm k h7.1 h7.2))
 |leave k=>simp at h7;exact .inl (.leave k (sm k h7.1 h7.2))
 |inI=>exact .inl .inI
 |outI=>exact .inl .outI
def uD(b x:List Int):Prop:=0<x.length/\x.length<=b.length/\b.take x.length=x
theorem oK{xs:List Int}(h:uD b xs):b=xs++b.drop xs.length:=by
 conv=>lhs;rw[<- abA xs.length b,h.2.2]
def bt(b:List Int)(x:zF):Prop:=x.op=2/\zS x.k=true/\10<=b.length/\uD b (V4 x)
theorem Fe(x:zF):(V4 x).length=10:=by unfold V4;rw[aar,wQ];rfl
theorem Pm{x:zF}(yk:x.op=2)(hs:zS x.k=true){p q:List Int}(e:b=zf x 0++p)(e2:b=V4 x++q):False:=by
 obtain⟨op,r,m,sub,cc,l,k⟩:=x;simp only at yk hs;subst yk;have e0:zf ⟨2,r,m,sub,cc,l,k⟩ 0=if zS k=true then [zj 72 0 r,199,zX 0 r]++xI 4 k else [zj 72 0 r,184+r%8]++xI 8 k:=rfl;rw[e0,aai hs]at e;rw[e]at e2
 have:(199:Int)=184+r%8:=by
  have:=congrArg (λl=>l[1]?) e2;have h:=abn this;exact h
 omega
theorem Gh(hb:yH b)(S:Shape x)(h:ym x=true):(uD b (zf x 0)->xH b=(x,false,(qi x,false)))/\(bt b x->xH b=(x,false,(10,false))):=by
 have N:=Rj S h
 constructor
 ·intro hbg;have e:=oK hbg;rcases N with N|⟨r,k,rfl,R,hk,hs⟩
  ·obtain⟨n,hn⟩:=Mi N (b.drop (zf x 0).length);rw[<- e]at hn;have W:=eQ hb (by rw[hn]);rw[hn]at W;have W:bw b (x,(n,false)):=by unfold Read at W;rw[aag (by simp)]at W;exact W
   rcases W.2 with A|⟨h1,h2,A⟩
   ·have:=A.2.2.1;have e2:n=qi x:=by simpa [qi] using this
    rw[hn,e2]
   ·exact(Pm h1 h2 e A.all).elim
  ·have e0:zf ⟨2,r,0,0,0,0,k⟩ 0=if zS k=true then [zj 72 0 r,199,zX 0 r]++xI 4 k else [zj 72 0 r,184+r%8]++xI 8 k:=rfl
   have hsz:qi ⟨2,r,0,0,0,0,k⟩=10:=by
    unfold qi;rw[e0,aag hs,aar,wQ];rfl
   rw[hsz];rw[e0,aag hs]at e;exact IA (rest:=b.drop _) R.1 R.2 hk e
 ·rintro⟨h1,h2,h3,h4⟩;have e:=oK h4;cases S with
  |movk r k hk=>
   have R:zZ r:=by
    rcases N with N|⟨r',k',e2,R,_⟩
    ·cases N with
     |movk r k a b=>exact a
    ·cases e2;exact R
   exact IA (rest:=b.drop _) R.1 R.2 hk e
  |_=>exact absurd h1 (by simp)
end
open Go.As (jI)
instance (b x:List Int):Decidable (uD b x):=by unfold uD;infer_instance
instance (b:List Int)(x:zF):Decidable (bt b x):=by unfold bt;infer_instance
def findD(b:List Int):List zF->Option (zF×Nat)
 |[]=>none
 |x::l=>if ym x=true then (if uD b (zf x 0) then some (x,qi x) else if bt b x then some (x,10) else findD b l) else findD b l
theorem UN{b:List Int}{y:zF}{m:Nat}:∀{l:List zF},findD b l=some (y,m)->y∈l/\ym y=true/\((uD b (zf y 0)/\m=qi y)\/(bt b y/\m=10))
 |[],h=>by cases h
 |x::l,h=>by
  unfold findD at h;split at h
  ·rename_i hr;split at h
   ·rename_i hbg;simp only[aab,aae]at h;obtain⟨rfl,rfl⟩:=h;exact⟨aao,hr,.inl ⟨hbg,rfl⟩⟩
   ·split at h
    ·rename_i hw;simp only[aab,aae]at h;obtain⟨rfl,rfl⟩:=h;exact⟨aao,hr,.inr ⟨hw,rfl⟩⟩
    ·have:=UN h;exact⟨aaz _ this.1,this.2⟩
  ·have:=UN h;exact⟨aaz _ this.1,this.2⟩
theorem gO{b:List Int}{x:zF}:∀{l:List zF},findD b l=none->x∈l->ym x=true->¬uD b (zf x 0) /\ ¬bt b x
 |[],_,h,_=>by cases h
 |y::l,h,hx,hr=>by
  unfold findD at h;rcases aaP.1 hx with rfl|hx
  ·rw[aai hr]at h;split at h
   ·cases h
   ·split at h
    ·cases h
    ·exact⟨by assumption,by assumption⟩
  ·split at h
   ·split at h
    ·cases h
    ·split at h
     ·cases h
     ·exact gO h hx hr
   ·exact gO h hx hr
section
variable {b:List Int}{x y:zF}{m n:Nat}
theorem Ae(hb:yH b)(h:findD b (uL b)=some (y,m)):xH b=(y,false,(m,false))/\ym y=true:=by
 obtain⟨h1,h2,h3⟩:=UN h;have g:=Gh hb (VV h1) h2;rcases h3 with⟨a,rfl⟩|⟨a,rfl⟩
 ·exact⟨g.1 a,h2⟩
 ·exact⟨g.2 a,h2⟩
theorem Mo(S:Shape x):0<(zf x 0).length:=by
 cases S <;> unfold zf <;> (try simp only[reduceIte,Int.reduceEq]) <;> (repeat' split) <;> simp
theorem tT{t:RS}{xs:List Int}(A:YP b (0,false) t xs)(h:0<xs.length):uD b xs:=by
 refine⟨h,A.ge,?_⟩;rw[A.all,List.take_left' rfl]
theorem Mh(hb:yH b)(h:xH b=(x,false,(n,false)))(hr:ym x=true):findD b (uL b)=some (x,n):=by
 have W:=eQ hb (by rw[h]);rw[h]at W;have W:bw b (x,(n,false)):=by unfold Read at W;rw[aag (by simp)]at W;exact W
 have S:=VV W.1;have pos:=Mo S;cases hf:findD b (uL b) with
 |none=>
  have:=gO hf W.1 hr;rcases W.2 with A|⟨h1,h2,A⟩
  ·exact absurd (tT A pos) this.1
  ·exact absurd ⟨h1,h2,by have:=A.ge;rw[Fe]at this;exact this,tT A (by show 0<(V4 x).length;rw[Fe];decide)⟩ this.2
 |some r=>
  obtain⟨y,m⟩:=r;have:=(Ae hb hf).1;rw[h]at this;simp only[aae]at this;obtain⟨rfl,_,rfl,_⟩:=this;rfl
end
def UQ:List Int->List Int->Nat->Int->Option (Nat×Int)
 |a::az,g::gs,n,to=>if a<=to/\to-a<=g then some (n,to-a) else UQ az gs (n+1) to
 |_,_,_,_=>none
def pC:List Int->Int->Nat->Option Nat
 |[],_,_=>none
 |s::ss,to,n=>if s=to then some n else pC ss to (n+1)
def Yg(st gl:List Int)(len:Nat)(x:zF)(to:Int):Option zF :=
 if x.op=18\/x.op=19 then (if 0<=to/\to<=(len:Int) then some {x with k:=0,l:=to} else none)
 else if x.op=21 then (pC st to 0).map λ(n:Nat)=>{x with k:=0,sub:=(n:Int)}
 else (UQ (vo gl 16777216) gl 0 to).map λr=>{x with sub:=(r.1:Int),k:=r.2}
def Bx(st gl:List Int)(len:Nat)(b:List Int)(p:Nat):Option (zF×Nat) :=
 if (xH b).2.2.2=true then none
 else if (xH b).2.1=true then (match Yg st gl len (xH b).1 (((p+(xH b).2.2.1:Nat):Int)+(xH b).1.k) with
  |some i=>if jI gl i=true then some (i,(xH b).2.2.1) else none
  |none=>none)
 else if jI gl (xH b).1=true then some ((xH b).1,(xH b).2.2.1) else none
def a8(b:List Int)(n:Nat):List zF:=[⟨18,0,0,0,0,0,0⟩,⟨21,0,0,0,0,0,0⟩]++((List.range 6).map λc=>⟨19,0,0,0,21+(c:Nat),0,0⟩)++(if n=7 then [⟨6,ql (zT b 2) (zT b 0),0,0,0,0,0⟩] else [])
def km(b:List Int)(n:Nat):Int:=XV ((b.drop (n-4)).take 4)
def Ji(b:List Int)(n:Nat):Option zF:=(a8 b n).find? λx=>decide (zf x (km b n)=b.take n)
def YC(st gl:List Int)(len:Nat)(x:zF)(to:Int):Option zF:=if x.op=6/\x.r=4 then none else Yg st gl len x to
def YV(st gl:List Int)(len:Nat)(b:List Int)(p:Nat):List Nat->Option (zF×Nat)
 |[]=>none
 |n::ns=>if n<=b.length then (match Ji b n with
  |some x=>(YC st gl len x (((p+n:Nat):Int)+km b n)).map λi=>(i,n)
  |none=>YV st gl len b p ns) else none
def Bw(st gl:List Int)(len:Nat)(b:List Int)(p:Nat):Option (zF×Nat):=match findD b (uL b) with
 |some r=>some r
 |none=>YV st gl len b p [5,6,7]
section
variable {b:List Int}{x y:zF}{m n:Nat}
theorem DY(hb:yH b)(h:x∈a8 b n):Kt x:=by
 have hbt:∀i,0<=zT b i/\zT b i<256:=λi=>by
  unfold zT;cases hi:b[i]? with
  |none=>exact⟨Int.le_refl _,by decide⟩
  |some v=>exact hb v (aax hi)
 unfold a8 at h;rcases aaG.1 h with h|h
 ·rcases aaG.1 h with h|h
  ·simp only[aaP,abG,acA]at h;rcases h with rfl|rfl
   ·exact .jmp
   ·exact .call
  ·obtain⟨c,hc,rfl⟩:=aa4.1 h;have:=abe.1 hc;exact .jcc _ (by omega) (by omega)
 ·split at h
  ·rw[aaq.1 h];exact .r8 _ (Jq (hbt 2).1 (hbt 2).2).1
  ·cases h
theorem N2(F:Kt y){d:Int}(hd:zS d=true)(rest:List Int):xH (zf y d++rest)=({y with k:=d},true,((zf y d).length,false)):=by
 cases F with
 |jmp=>exact RI hd _ rfl
 |call=>exact RM hd _ rfl
 |jcc cc a c=>exact RJ hd ⟨19,0,0,0,cc,0,0⟩ rfl a c
 |r8 r R=>exact zaC hd ⟨6,r,0,0,0,0,0⟩ rfl R.1 R.2
theorem FW(hb:yH b)(hn:n<=b.length)(h4:4<=n):zS (km b n)=true:=by
 unfold km;refine Jh (by rw[aaQ,abh];omega) λz hz=>hb z (aby (abo hz))
theorem pB(hb:yH b)(hn:n<=b.length)(h4:4<=n)(h:Ji b n=some x):Kt x/\xH b=({x with k:=km b n},true,(n,false)):=by
 unfold Ji at h;have hx:=List.mem_of_find?_eq_some h;have hp:=List.find?_some h;have e:zf x (km b n)=b.take n:=by simpa using hp
 have F:=DY hb hx;refine⟨F,?_⟩;have r:=N2 F (FW hb hn h4) (b.drop n);rw[e,abA,aaQ,abW hn]at r;exact r
theorem BA(F:Kt y)(d:Int):(zf y d).length=5\/(zf y d).length=6\/(zf y d).length=7:=by
 cases F with
 |jmp=>exact .inl rfl
 |call=>exact .inl rfl
 |jcc cc a c=>exact .inr (.inl rfl)
 |r8 r R=>exact .inr (.inr rfl)
theorem N1(F:Kt y){d:Int}(hd:zS d=true){t:RS}(A:YP b (0,false) t (zf y d)):km b (zf y d).length=d:=by
 have e:=A.all;have hl:4<=(zf y d).length:=by have:=BA F d;omega
 obtain⟨pre,hp⟩:∃pre:List Int,zf y d=pre++xI 4 d/\pre.length=(zf y d).length-4:=by
  cases F with
  |jmp=>exact⟨[233],rfl,rfl⟩
  |call=>exact⟨[232],rfl,rfl⟩
  |jcc cc a c=>exact⟨[15,128+vA cc],rfl,rfl⟩
  |r8 r R=>exact⟨[zj 72 r 0,141,5+r%8*8],rfl,rfl⟩
 unfold km
 have:b=pre++(xI 4 d++b.drop (zf y d).length):=by
  conv=>lhs;rw[e,hp.1,aa7]
  rw[<- hp.1]
 rw[this];rw[<- hp.2];rw[List.drop_left' rfl];rw[List.take_left' (wQ 4 d)];exact ae hd
theorem PT(F:Kt y){d:Int}{t:RS}(A:YP b (0,false) t (zf y d)):y∈a8 b (zf y d).length:=by
 cases F with
 |jmp=>exact aaK _ (aaK _ (by simp))
 |call=>exact aaK _ (aaK _ (by simp))
 |jcc cc a c=>
  refine aaK _ (aa5 _ (aa4.2 ⟨(cc-21).toNat,abe.2 (by omega),?_⟩));have:21+(((cc-21).toNat:Nat):Int)=cc:=by omega
  rw[this]
 |r8 r R=>
  refine aa5 _ ?_;have hl:(zf ⟨6,r,0,0,0,0,0⟩ d).length=7:=rfl;rw[hl,aai rfl];have b0:=WB A (i:=0) (v:=zj 72 r 0) rfl;have b2:=WB A (i:=2) (v:=5+r%8*8) rfl;rw[b0.1,b2.1,fu (b:=0) R.1 R.2 (fA r 0).2.1 (by omega)];exact aaq.2 rfl
end
section
variable {b:List Int}{x y:zF}{m n:Nat}{st gl:List Int}
theorem rB(S:Shape x)(gl:List Int):jI gl x=ym x:=by
 have h:=Go.Ar.Of gl x
 have h1:Go.Ar.jm x=true:=by
  unfold Go.Ar.jm;cases S <;> simp
 have h2:Go.Ar.Wd gl x=true:=by
  unfold Go.Ar.Wd;cases S <;> simp
 rw[h1,h2,ab7,ab7]at h;exact h
theorem Ak{len p:Nat}:∀{ns:List Nat},(∀n,n∈ns->n<=b.length->Ji b n=none)->YV st gl len b p ns=none
 |[],h=>rfl
 |n::ns,h=>by
  unfold YV;by_cases c:n<=b.length
  ·rw[aai c,h n aao c];exact Ak λk hk=>h k (aaz _ hk)
  ·rw[aag c]
theorem Ic{len p n0:Nat}{i:zF}:∀{ns:List Nat},n0∈ns->(∀n,n∈ns->n<=n0\/True)->(∀n,n∈ns->¬n=n0->n<=b.length->Ji b n=none)->(∀n,n∈ns->n<=b.length\/n0<n)->ns.Pairwise (· < ·)->Ji b n0=some i->YV st gl len b p ns=(YC st gl len i (((p+n0:Nat):Int)+km b n0)).map λj=>(j,n0)
 |[],h,_,_,_,_,_=>by cases h
 |n::ns,h,h1,h2,h3,h4,h5=>by
  have h4':=List.pairwise_cons.1 h4;unfold YV;by_cases e:n=n0
  ·subst e
   have c:n<=b.length:=by
    rcases h3 n aao with q|q
    ·exact q
    ·omega
   rw[aai c,h5]
  ·have hm:n0∈ns:=by
    rcases aaP.1 h with q|q
    ·exact absurd q.symm e
    ·exact q
   have lt:=h4'.1 n0 hm
   have c:n<=b.length:=by
    rcases h3 n aao with q|q
    ·exact q
    ·omega
   rw[aai c,h2 n aao e c];exact Ic hm (λk _ => .inr trivial) (λk hk=>h2 k (aaz _ hk)) (λk hk=>h3 k (aaz _ hk)) h4'.2 h5
theorem Il{to:Int}:∀(az gl:List Int) (n:Nat) {r:Nat×Int},UQ az gl n to=some r->n<=r.1/\r.1<n+gl.length/\0<=r.2/\r.2<=gl.getD (r.1-n) 0
 |a::az,g::gl,n,r,h=>by
  unfold UQ at h;split at h
  ·rename_i q;simp only[aab]at h;subst h;refine⟨aaj _,by simp,by omega,?_⟩;show to-a<=(g::gl).getD (n-n) 0;rw[Nat.sub_self];exact q.2
  ·have:=Il az gl (n+1) h;obtain⟨h1,h2,h3,h4⟩:=this;refine⟨by omega,by simp;omega,h3,?_⟩;obtain⟨k,hk⟩:∃k,r.1-n=k+1:=⟨r.1-n-1,by omega⟩;rw[hk];have:r.1-(n+1)=k:=by omega
   rw[this]at h4;exact h4
 |[],_,n,r,h=>by cases h
 |_::_,[],n,r,h=>by cases h
theorem LS(F:Kt y){len:Nat}{to:Int}{i:zF}(h:Yg st gl len y to=some i):jI gl i = !decide (y.op=6/\y.r=4):=by
 unfold Yg at h;cases F with
 |jmp=>
  simp at h;rw[<- h.2];rfl
 |jcc cc a c=>
  simp at h;rw[<- h.2];have:cc=21\/cc=22\/cc=23\/cc=24\/cc=25\/cc=26:=by omega
  rcases this with rfl|rfl|rfl|rfl|rfl|rfl <;> rfl
 |call=>
  simp at h;obtain⟨n,_,rfl⟩:=h;rfl
 |r8 r R=>
  simp at h;obtain⟨n,k,h1,rfl⟩:=h;obtain⟨b1,b2,b3,b4⟩:=Il _ _ _ h1;have R0:=R.1;have R1:=R.2;rw[Nat.sub_zero]at b4;have b2:(n:Int)<gl.length:=by have:n<0+gl.length:=b2;omega
  have b3:0<=k:=b3;have b4:k<=gl.getD n 0:=b4;have b5:k<=gl[n]?.getD 0:=by rw[<- abd];exact b4
  unfold jI Go.As.Yl Go.As.yn;have e1:Go.As.sd 6=true:=rfl;have e2:Go.As.Un 6=true:=rfl;have e3:Go.As.cN 6=false:=rfl;simp only[e1,e2,e3,abl];by_cases h4:r=4
  ·subst h4;simp
  ·simp[h4,R0,R1,b2,b3,b5]
theorem T1(hb:yH b)(len p:Nat):Bw st gl len b p=Bx st gl len b p:=by
 unfold Bw;cases hf:findD b (uL b) with
 |some r=>
  obtain⟨y,m⟩:=r;obtain⟨h1,h2⟩:=Ae hb hf;have S:=VV (UN hf).1;unfold Bx;rw[h1];rw[aag (by simp),aag (by simp),aai (by rw[rB S];exact h2)]
 |none=>
  have none_of:(∀n,n∈[5,6,7]->n<=b.length->∀x,Ji b n=some x->False)->YV st gl len b p [5,6,7]=none:=λh=>Ak λn hn hl=>by
   cases hh:Ji b n with
   |none=>rfl
   |some x=>exact(h n hn hl x hh).elim
  have four:∀n,n∈[5,6,7]->4<=n:=λn hn=>by simp at hn;omega
  show YV st gl len b p [5,6,7]=_;unfold Bx;by_cases hbad:(xH b).2.2.2=true
  ·rw[aai hbad];refine none_of λn hn hl x hh=>?_;have:=(pB hb hl (four n hn) hh).2;rw[this]at hbad;cases hbad
  rw[aag hbad];have hok:(xH b).2.2.2=false:=by simpa using hbad
  have W:=eQ hb hok;by_cases hfar:(xH b).2.1=true
  ·rw[aai hfar];unfold Read at W;rw[aai hfar]at W;obtain⟨y,d,F,hd,e1,A⟩:=W;have e1:(xH b).1 = {y with k:=d}:=e1;have hn0:(xH b).2.2.1=(zf y d).length:=by have:=A.2.2.1;simpa using this
   have hge:=A.ge;have hlen:=BA F d;have hy:=PT F A;have hdist:=N1 F hd A;rw[hn0,e1]
   have uniq:∀n,n∈[5,6,7]->n<=b.length->∀x,Ji b n=some x->n=(zf y d).length/\x=y:=λn hn hl x hh=>by
    obtain⟨Fx,r⟩:=pB hb hl (four n hn) hh;rw[r]at hn0 e1;have hn0:n=(zf y d).length:=hn0;refine⟨hn0,?_⟩;have e1:({x with k:=km b n}:zF) = {y with k:=d}:=e1;have k0:∀{z:zF},Kt z->z.k=0:=λFz=>by cases Fz <;> rfl
    obtain⟨a1,a2,a3,a4,a5,a6,a7⟩:=x;obtain⟨b1,b2,b3,b4,b5,b6,b7⟩:=y;have:=k0 Fx;have:=k0 F;simp only[zF.mk.injEq]at e1;simp only at *
    obtain⟨rfl,rfl,rfl,rfl,rfl,rfl,_⟩:=e1
    subst_vars
    rfl
   have hit:Ji b (zf y d).length=some y:=by
    have hs:∃x,Ji b (zf y d).length=some x:=by
     unfold Ji;rw[hdist]
     have:((a8 b (zf y d).length).find? λx=>decide (zf x d=b.take (zf y d).length)).isSome=true:=by
      rw[List.find?_isSome];refine⟨y,hy,?_⟩;rw[A.all,List.take_left' rfl];simp
     exact Option.isSome_iff_exists.1 this
    obtain⟨x,hx⟩:=hs;have:=(uniq _ (by simp;omega) hge x hx).2;rw[hx,this]
   rw[Ic (n0:=(zf y d).length) (i:=y) (by simp;omega) (λ_ _ => .inr trivial) (λn hn hne hl=>by
    cases hh:Ji b n with
    |none=>rfl
    |some x=>exact absurd (uniq n hn hl x hh).1 hne) (λn hn=>by
     simp at hn;by_cases q:n<=b.length
     ·exact .inl q
     ·exact .inr (by omega)) (by decide) hit,hdist]
   have eg:∀to,Yg st gl len {y with k:=d} to=Yg st gl len y to:=λto=>rfl
   show(YC st gl len y (((p+(zf y d).length:Nat):Int)+d)).map _=match Yg st gl len {y with k:=d} (((p+(zf y d).length:Nat):Int)+d) with
    |some i=>if jI gl i=true then some (i,(zf y d).length) else none
    |none=>none
   rw[eg];unfold YC;cases hg:Yg st gl len y (((p+(zf y d).length:Nat):Int)+d) with
   |none=>split <;> rfl
   |some i=>
    have gg:=LS F hg;by_cases h4:y.op=6/\y.r=4
    ·rw[aai h4];simp only[gg];rw[aaY h4];rfl
    ·rw[aag h4];simp only[gg];rw[aaX h4];rfl
  ·rw[aag hfar];have hfar:(xH b).2.1=false:=by simpa using hfar
   have e:xH b=((xH b).1,false,((xH b).2.2.1,false)):=Prod.ext rfl (Prod.ext hfar (Prod.ext rfl hok));unfold Read at W;rw[aag (by rw[hfar];simp)]at W;have S:=VV W.1;have S:Shape (xH b).1:=S
   have hno:¬jI gl (xH b).1=true:=λh=>by
    rw[rB S]at h;have:=Mh hb e h;rw[hf]at this;cases this
   rw[aag hno];refine none_of λn hn hl x hh=>?_;have:=(pB hb hl (four n hn) hh).2;rw[this]at hfar;cases hfar
end
end Go.En
