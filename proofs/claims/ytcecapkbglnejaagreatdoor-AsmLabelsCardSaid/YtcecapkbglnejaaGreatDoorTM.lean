/- A part of the proof. -/
import Derived.Test.YtcecapkbglnejaaGreatDoorTL
import Derived.Test.YtcecapkbglnejaaGreatDoorTJ
import Derived.Test.YtcecapkbglnejaaGreatDoorChecked
import Derived.KernelRfl
import Derived.Test.YtcecapkbglnejaaGreatDoorTH
import Derived.Test.YtcecapkbglnejaaGreatDoorTI
import Derived.Test.YtcecapkbglnejaaGreatDoorTF
import Derived.Test.YtcecapkbglnejaaGreatDoorTG
set_option linter.unusedVariables false
set_option linter.unusedSimpArgs false
set_option maxRecDepth 100000
namespace Go.As
open Go.Ai Go.Proofs
noncomputable def iX:Array Field:=match Program.underlying Tryz.prog 64 with|some (.struct f)=>f|_ => #[]
theorem CV(b off:Nat)(h:za):zd Tryz.prog 103 (.pointer (some ⟨b,off,none⟩)) h=zw h b off:=yc (by kernel_rfl) b off h
theorem dz(b off:Nat)(h:za):zd Tryz.prog 104 (.pointer (some ⟨b,off,none⟩)) h=zw h b off:=yc (by kernel_rfl) b off h
theorem Oh(b off:Nat)(h:za):zd Tryz.prog 105 (.pointer (some ⟨b,off,none⟩)) h=zw h b off:=yc (by kernel_rfl) b off h
theorem rH(b off:Nat)(h:za):zd Tryz.prog 106 (.pointer (some ⟨b,off,none⟩)) h=zw h b off:=yc (by kernel_rfl) b off h
theorem H4(b off:Nat)(h:za):zd Tryz.prog 129 (.pointer (some ⟨b,off,none⟩)) h=zw h b off:=yc (by kernel_rfl) b off h
theorem yR(b off:Nat)(h:za):zd Tryz.prog 2 (.pointer (some ⟨b,off,none⟩)) h=zw h b off:=yc (by kernel_rfl) b off h
theorem u5(b off:Nat)(h:za):zd Tryz.prog 22 (.pointer (some ⟨b,off,none⟩)) h=zw h b off:=yc (by kernel_rfl) b off h
theorem vM(b off:Nat)(h:za):zd Tryz.prog 23 (.pointer (some ⟨b,off,none⟩)) h=zw h b off:=yc (by kernel_rfl) b off h
theorem Xn(b off:Nat)(h:za):zd Tryz.prog 25 (.pointer (some ⟨b,off,none⟩)) h=yg h b off 4:=u0 (by kernel_rfl) (by kernel_rfl) b off h
theorem zh(b off:Nat)(h:za):zd Tryz.prog 3 (.pointer (some ⟨b,off,none⟩)) h=zw h b off:=yc (by kernel_rfl) b off h
theorem H6(b off:Nat)(h:za):zd Tryz.prog 30 (.pointer (some ⟨b,off,none⟩)) h=zw h b off:=yc (by kernel_rfl) b off h
theorem Ax(b off:Nat)(h:za):zd Tryz.prog 31 (.pointer (some ⟨b,off,none⟩)) h=zw h b off:=yc (by kernel_rfl) b off h
theorem Uo(b off:Nat)(h:za):zd Tryz.prog 33 (.pointer (some ⟨b,off,none⟩)) h=yg h b off 5:=u0 (by kernel_rfl) (by kernel_rfl) b off h
theorem CW(b off:Nat)(h:za):zd Tryz.prog 4 (.pointer (some ⟨b,off,none⟩)) h=zw h b off:=yc (by kernel_rfl) b off h
theorem kO(b off:Nat)(h:za):zd Tryz.prog 45 (.pointer (some ⟨b,off,none⟩)) h=zw h b off:=yc (by kernel_rfl) b off h
theorem QQ(b off:Nat)(h:za):zd Tryz.prog 47 (.pointer (some ⟨b,off,none⟩)) h=yg h b off 2:=u0 (by kernel_rfl) (by kernel_rfl) b off h
theorem v8(b off:Nat)(h:za):zd Tryz.prog 50 (.pointer (some ⟨b,off,none⟩)) h=yg h b off 7:=u0 (by kernel_rfl) (by kernel_rfl) b off h
theorem zq(b off:Nat)(h:za):zd Tryz.prog 64 (.pointer (some ⟨b,off,none⟩)) h=yg h b off 3:=u0 (by kernel_rfl) (by kernel_rfl) b off h
theorem Oj(r:TypeId)(v x:Value)(n:Nat)(new:List Value)(h:za)(h1:YP x=some n)(h2:vE h n 1 x=some new)(h3:new.all wi=true)(h4:new.length=n*1):zk Tryz.prog .append [103,103] r [v,x] h=Yq h 129 1 8 n new v:=Zi (e:=129) (e2:=129) (by kernel_rfl) (by kernel_rfl) (by kernel_rfl) (by kernel_rfl) (by decide) h1 h2 h3 h4
theorem Ok(r:TypeId)(v x:Value)(n:Nat)(new:List Value)(h:za)(h1:YP x=some n)(h2:vE h n 7 x=some new)(h3:new.all wi=true)(h4:new.length=n*7):zk Tryz.prog .append [106,106] r [v,x] h=Yq h 134 7 56 n new v:=Zi (e:=134) (e2:=134) (by kernel_rfl) (by kernel_rfl) (by kernel_rfl) (by kernel_rfl) (by decide) h1 h2 h3 h4
theorem Es(r:TypeId)(v x:Value)(n:Nat)(new:List Value)(h:za)(h1:YP x=some n)(h2:vE h n 1 x=some new)(h3:new.all wi=true)(h4:new.length=n*1):zk Tryz.prog .append [22,22] r [v,x] h=Yq h 3 1 8 n new v:=Zi (e:=3) (e2:=3) (by kernel_rfl) (by kernel_rfl) (by kernel_rfl) (by kernel_rfl) (by decide) h1 h2 h3 h4
theorem P2(r:TypeId)(v x:Value)(n:Nat)(new:List Value)(h:za)(h1:YP x=some n)(h2:vE h n 2 x=some new)(h3:new.all wi=true)(h4:new.length=n*2):zk Tryz.prog .append [30,30] r [v,x] h=Yq h 85 2 16 n new v:=Zi (e:=85) (e2:=85) (by kernel_rfl) (by kernel_rfl) (by kernel_rfl) (by kernel_rfl) (by decide) h1 h2 h3 h4
theorem P3(r:TypeId)(v x:Value)(n:Nat)(new:List Value)(h:za)(h1:YP x=some n)(h2:vE h n 3 x=some new)(h3:new.all wi=true)(h4:new.length=n*3):zk Tryz.prog .append [31,31] r [v,x] h=Yq h 80 3 24 n new v:=Zi (e:=80) (e2:=80) (by kernel_rfl) (by kernel_rfl) (by kernel_rfl) (by kernel_rfl) (by decide) h1 h2 h3 h4
theorem Oo(b off:Nat)(v:Option Addr)(vl vc:Nat)(h:za):zn Tryz.prog 103 (.pointer (some ⟨b,off,none⟩)) (.slice v vl vc) h=vi h b off [(.slice v vl vc)]:=uf (by kernel_rfl) b off _ h rfl
theorem Ij(b off:Nat)(v:Option Addr)(vl vc:Nat)(h:za):zn Tryz.prog 106 (.pointer (some ⟨b,off,none⟩)) (.slice v vl vc) h=vi h b off [(.slice v vl vc)]:=uf (by kernel_rfl) b off _ h rfl
theorem Oq(b off:Nat)(l:List Value)(h:za)(hv:l.length=6):zn Tryz.prog 130 (.pointer (some ⟨b,off,none⟩)) (.agg l.toArray) h=vi h b off l:=qf (by kernel_rfl) b off l h hv
theorem S7(b off:Nat)(v:Int)(h:za):zn Tryz.prog 2 (.pointer (some ⟨b,off,none⟩)) (.int .i64 v) h=vi h b off [(.int .i64 v)]:=uf (by kernel_rfl) b off _ h rfl
theorem P6(b off:Nat)(v:Option Addr)(vl vc:Nat)(h:za):zn Tryz.prog 22 (.pointer (some ⟨b,off,none⟩)) (.slice v vl vc) h=vi h b off [(.slice v vl vc)]:=uf (by kernel_rfl) b off _ h rfl
theorem WL(b off:Nat)(v:Int)(h:za):zn Tryz.prog 3 (.pointer (some ⟨b,off,none⟩)) (.int .i64 v) h=vi h b off [(.int .i64 v)]:=uf (by kernel_rfl) b off _ h rfl
theorem P8(b off:Nat)(v:Option Addr)(vl vc:Nat)(h:za):zn Tryz.prog 30 (.pointer (some ⟨b,off,none⟩)) (.slice v vl vc) h=vi h b off [(.slice v vl vc)]:=uf (by kernel_rfl) b off _ h rfl
theorem P9(b off:Nat)(v:Option Addr)(vl vc:Nat)(h:za):zn Tryz.prog 31 (.pointer (some ⟨b,off,none⟩)) (.slice v vl vc) h=vi h b off [(.slice v vl vc)]:=uf (by kernel_rfl) b off _ h rfl
theorem Qt(b off:Nat)(l:List Value)(h:za)(hv:l.length=5):zn Tryz.prog 33 (.pointer (some ⟨b,off,none⟩)) (.agg l.toArray) h=vi h b off l:=qf (by kernel_rfl) b off l h hv
theorem Ml(b off:Nat)(v:Bool)(h:za):zn Tryz.prog 4 (.pointer (some ⟨b,off,none⟩)) (.bool v) h=vi h b off [(.bool v)]:=uf (by kernel_rfl) b off _ h rfl
theorem Ev(b off:Nat)(l:List Value)(h:za)(hv:l.length=2):zn Tryz.prog 47 (.pointer (some ⟨b,off,none⟩)) (.agg l.toArray) h=vi h b off l:=qf (by kernel_rfl) b off l h hv
theorem oI(b off:Nat)(l:List Value)(h:za)(hv:l.length=7):zn Tryz.prog 50 (.pointer (some ⟨b,off,none⟩)) (.agg l.toArray) h=vi h b off l:=qf (by kernel_rfl) b off l h hv
theorem zM(b off:Nat)(l:List Value)(h:za)(hv:l.length=3):zn Tryz.prog 64 (.pointer (some ⟨b,off,none⟩)) (.agg l.toArray) h=vi h b off l:=qf (by kernel_rfl) b off l h hv
theorem Ox:wD Tryz.prog 130=some (.agg #[(.int .i64 0),(.int .i64 0),(.int .i64 0),(.int .i64 0),(.int .i64 0),(.int .i64 0)]):=zE (by kernel_rfl)
theorem Ja:wD Tryz.prog 33=some (.agg #[(.int .i64 0),(.int .i64 0),(.slice none 0 0),(.slice none 0 0),(.int .i64 0)]):=zE (by kernel_rfl)
theorem Ez:wD Tryz.prog 47=some (.agg #[(.string ⟨#[]⟩),(.slice none 0 0)]):=zE (by kernel_rfl)
theorem oL:wD Tryz.prog 50=some (.agg #[(.int .i64 0),(.int .i64 0),(.int .i64 0),(.int .i64 0),(.int .i64 0),(.int .i64 0),(.int .i64 0)]):=zE (by kernel_rfl)
theorem vT:wD Tryz.prog 64=some (.agg #[(.int .i64 0),(.int .i64 0),(.int .i64 0)]):=zE (by kernel_rfl)
theorem Ir(v0:Int):yU Tryz.prog 134 [(0,(.int .i64 v0))]=some (.agg #[(.int .i64 v0),(.int .i64 0),(.int .i64 0),(.int .i64 0),(.int .i64 0),(.int .i64 0),(.int .i64 0)]):=zE (by kernel_rfl)
theorem Oz:yU Tryz.prog 33 []=some (.agg #[(.int .i64 0),(.int .i64 0),(.slice none 0 0),(.slice none 0 0),(.int .i64 0)]):=zE (by kernel_rfl)
theorem AN(v0:Int)(v1:Int)(v2:Int):yU Tryz.prog 80 [(0,(.int .i64 v0)),(1,(.int .i64 v1)),(2,(.int .i64 v2))]=some (.agg #[(.int .i64 v0),(.int .i64 v1),(.int .i64 v2)]):=zE (by kernel_rfl)
theorem Gd(v0:Int)(v1:Int):yU Tryz.prog 85 [(0,(.int .i64 v0)),(1,(.int .i64 v1))]=some (.agg #[(.int .i64 v0),(.int .i64 v1)]):=zE (by kernel_rfl)
theorem C7(v0:Option Nat)(h:za):yC Tryz.prog 103 1 [(0,(.map v0))] h=some (.slice (some ⟨h.next,0,none⟩) 1 3,h.push (.cells [(.map v0)] 129)):=zE (by kernel_rfl)
theorem C8(v00:Int)(v01:Int)(v02:Int)(v03:Int)(v040:Int)(v041:Int)(v042:Int)(h:za):yC Tryz.prog 106 1 [(0,(.agg #[(.int .i64 v00),(.int .i64 v01),(.int .i64 v02),(.int .i64 v03),(.int .i64 v040),(.int .i64 v041),(.int .i64 v042)]))] h=some (.slice (some ⟨h.next,0,none⟩) 1 3,h.push (.cells [(.int .i64 v00),(.int .i64 v01),(.int .i64 v02),(.int .i64 v03),(.int .i64 v040),(.int .i64 v041),(.int .i64 v042)] 134)):=zE (by kernel_rfl)
theorem Gg(v0:Int)(h:za):yC Tryz.prog 22 1 [(0,(.int .i64 v0))] h=some (.slice (some ⟨h.next,0,none⟩) 1 3,h.push (.cells [(.int .i64 v0)] 3)):=zE (by kernel_rfl)
theorem Gj(v00:Int)(v01:Int)(h:za):yC Tryz.prog 30 1 [(0,(.agg #[(.int .i64 v00),(.int .i64 v01)]))] h=some (.slice (some ⟨h.next,0,none⟩) 1 3,h.push (.cells [(.int .i64 v00),(.int .i64 v01)] 85)):=zE (by kernel_rfl)
theorem Gk(v00:Int)(v01:Int)(v02:Int)(h:za):yC Tryz.prog 31 1 [(0,(.agg #[(.int .i64 v00),(.int .i64 v01),(.int .i64 v02)]))] h=some (.slice (some ⟨h.next,0,none⟩) 1 3,h.push (.cells [(.int .i64 v00),(.int .i64 v01),(.int .i64 v02)] 80)):=zE (by kernel_rfl)
theorem Xc(n:Int)(h:za):qE Tryz.prog 21 2 (.int .i32 n) h=some (.int .i64 (IntKind.wrap .i64 n),h):=zE (by kernel_rfl)
theorem fM(n:Int)(h:za):qE Tryz.prog 2 21 (.int .i64 n) h=some (.int .i32 (IntKind.wrap .i32 n),h):=zE (by kernel_rfl)
theorem A7(b off:Nat):zb Tryz.prog 108 (.pointer (some ⟨b,off,none⟩)) 0=some (.pointer (some ⟨b,off,none⟩)):=zE (by kernel_rfl)
theorem iT(b off:Nat):zb Tryz.prog 108 (.pointer (some ⟨b,off,none⟩)) 1=some (.pointer (some ⟨b,off+4,none⟩)):=zE (by kernel_rfl)
theorem KO(b off:Nat):zb Tryz.prog 108 (.pointer (some ⟨b,off,none⟩)) 10=some (.pointer (some ⟨b,off+66,none⟩)):=zE (by kernel_rfl)
theorem Us(b off:Nat):zb Tryz.prog 108 (.pointer (some ⟨b,off,none⟩)) 11=some (.pointer (some ⟨b,off+69,none⟩)):=zE (by kernel_rfl)
theorem oV(b off:Nat):zb Tryz.prog 108 (.pointer (some ⟨b,off,none⟩)) 12=some (.pointer (some ⟨b,off+70,none⟩)):=zE (by kernel_rfl)
theorem oW(b off:Nat):zb Tryz.prog 108 (.pointer (some ⟨b,off,none⟩)) 13=some (.pointer (some ⟨b,off+71,none⟩)):=zE (by kernel_rfl)
theorem Ut(b off:Nat):zb Tryz.prog 108 (.pointer (some ⟨b,off,none⟩)) 2=some (.pointer (some ⟨b,off+5,none⟩)):=zE (by kernel_rfl)
theorem IP(b off:Nat):zb Tryz.prog 108 (.pointer (some ⟨b,off,none⟩)) 3=some (.pointer (some ⟨b,off+6,none⟩)):=zE (by kernel_rfl)
theorem Zd(b off:Nat):zb Tryz.prog 108 (.pointer (some ⟨b,off,none⟩)) 4=some (.pointer (some ⟨b,off+7,none⟩)):=zE (by kernel_rfl)
theorem A8(b off:Nat):zb Tryz.prog 108 (.pointer (some ⟨b,off,none⟩)) 5=some (.pointer (some ⟨b,off+12,none⟩)):=zE (by kernel_rfl)
theorem aV(b off:Nat):zb Tryz.prog 108 (.pointer (some ⟨b,off,none⟩)) 6=some (.pointer (some ⟨b,off+13,none⟩)):=zE (by kernel_rfl)
theorem xY(b off:Nat):zb Tryz.prog 108 (.pointer (some ⟨b,off,none⟩)) 7=some (.pointer (some ⟨b,off+14,none⟩)):=zE (by kernel_rfl)
theorem Wc(b off:Nat):zb Tryz.prog 108 (.pointer (some ⟨b,off,none⟩)) 8=some (.pointer (some ⟨b,off+62,none⟩)):=zE (by kernel_rfl)
theorem aW(b off:Nat):zb Tryz.prog 108 (.pointer (some ⟨b,off,none⟩)) 9=some (.pointer (some ⟨b,off+63,none⟩)):=zE (by kernel_rfl)
theorem iU(b off:Nat):zb Tryz.prog 134 (.pointer (some ⟨b,off,none⟩)) 0=some (.pointer (some ⟨b,off,none⟩)):=zE (by kernel_rfl)
theorem Uu(b off:Nat):zb Tryz.prog 134 (.pointer (some ⟨b,off,none⟩)) 1=some (.pointer (some ⟨b,off+1,none⟩)):=zE (by kernel_rfl)
theorem Vk(b off:Nat):zb Tryz.prog 134 (.pointer (some ⟨b,off,none⟩)) 2=some (.pointer (some ⟨b,off+2,none⟩)):=zE (by kernel_rfl)
theorem aX(b off:Nat):zb Tryz.prog 134 (.pointer (some ⟨b,off,none⟩)) 3=some (.pointer (some ⟨b,off+3,none⟩)):=zE (by kernel_rfl)
theorem A9(b off:Nat):zb Tryz.prog 134 (.pointer (some ⟨b,off,none⟩)) 4=some (.pointer (some ⟨b,off+4,none⟩)):=zE (by kernel_rfl)
theorem wI(b off:Nat):zb Tryz.prog 25 (.pointer (some ⟨b,off,none⟩)) 0=some (.pointer (some ⟨b,off,none⟩)):=zE (by kernel_rfl)
theorem yM(b off:Nat):zb Tryz.prog 25 (.pointer (some ⟨b,off,none⟩)) 1=some (.pointer (some ⟨b,off+1,none⟩)):=zE (by kernel_rfl)
theorem jm(b off:Nat):zb Tryz.prog 25 (.pointer (some ⟨b,off,none⟩)) 2=some (.pointer (some ⟨b,off+2,none⟩)):=zE (by kernel_rfl)
theorem j4(b off:Nat):zb Tryz.prog 25 (.pointer (some ⟨b,off,none⟩)) 3=some (.pointer (some ⟨b,off+3,none⟩)):=zE (by kernel_rfl)
theorem XM(b off:Nat):zb Tryz.prog 33 (.pointer (some ⟨b,off,none⟩)) 0=some (.pointer (some ⟨b,off,none⟩)):=zE (by kernel_rfl)
theorem rP(b off:Nat):zb Tryz.prog 33 (.pointer (some ⟨b,off,none⟩)) 1=some (.pointer (some ⟨b,off+1,none⟩)):=zE (by kernel_rfl)
theorem rQ(b off:Nat):zb Tryz.prog 33 (.pointer (some ⟨b,off,none⟩)) 2=some (.pointer (some ⟨b,off+2,none⟩)):=zE (by kernel_rfl)
theorem aY(b off:Nat):zb Tryz.prog 33 (.pointer (some ⟨b,off,none⟩)) 3=some (.pointer (some ⟨b,off+3,none⟩)):=zE (by kernel_rfl)
theorem aZ(b off:Nat):zb Tryz.prog 33 (.pointer (some ⟨b,off,none⟩)) 4=some (.pointer (some ⟨b,off+4,none⟩)):=zE (by kernel_rfl)
theorem vD(b off:Nat):zb Tryz.prog 47 (.pointer (some ⟨b,off,none⟩)) 1=some (.pointer (some ⟨b,off+1,none⟩)):=zE (by kernel_rfl)
theorem zg(b off:Nat):zb Tryz.prog 50 (.pointer (some ⟨b,off,none⟩)) 0=some (.pointer (some ⟨b,off,none⟩)):=zE (by kernel_rfl)
theorem wJ(b off:Nat):zb Tryz.prog 50 (.pointer (some ⟨b,off,none⟩)) 1=some (.pointer (some ⟨b,off+1,none⟩)):=zE (by kernel_rfl)
theorem xM(b off:Nat):zb Tryz.prog 50 (.pointer (some ⟨b,off,none⟩)) 2=some (.pointer (some ⟨b,off+2,none⟩)):=zE (by kernel_rfl)
theorem zF(b off:Nat):zb Tryz.prog 50 (.pointer (some ⟨b,off,none⟩)) 3=some (.pointer (some ⟨b,off+3,none⟩)):=zE (by kernel_rfl)
theorem U9(b off:Nat):zb Tryz.prog 50 (.pointer (some ⟨b,off,none⟩)) 4=some (.pointer (some ⟨b,off+4,none⟩)):=zE (by kernel_rfl)
theorem vh(b off:Nat):zb Tryz.prog 50 (.pointer (some ⟨b,off,none⟩)) 5=some (.pointer (some ⟨b,off+5,none⟩)):=zE (by kernel_rfl)
theorem zV(b off:Nat):zb Tryz.prog 50 (.pointer (some ⟨b,off,none⟩)) 6=some (.pointer (some ⟨b,off+6,none⟩)):=zE (by kernel_rfl)
theorem wA(b off:Nat):zb Tryz.prog 64 (.pointer (some ⟨b,off,none⟩)) 0=some (.pointer (some ⟨b,off,none⟩)):=zE (by kernel_rfl)
theorem wx(b off:Nat):zb Tryz.prog 64 (.pointer (some ⟨b,off,none⟩)) 1=some (.pointer (some ⟨b,off+1,none⟩)):=zE (by kernel_rfl)
theorem uR(b off:Nat):zb Tryz.prog 64 (.pointer (some ⟨b,off,none⟩)) 2=some (.pointer (some ⟨b,off+2,none⟩)):=zE (by kernel_rfl)
theorem OS(b off len c:Nat)(k:IntKind)(i:Int):zA Tryz.prog 103 (.slice (some ⟨b,off,none⟩) len c) (.int k i)=if 0<=i/\i<len then some (.pointer (some ⟨b,off+i.toNat*1,none⟩)) else none:=xp (e:=129) (by kernel_rfl) (by kernel_rfl)
theorem OT(b off len c:Nat)(k:IntKind)(i:Int):zA Tryz.prog 106 (.slice (some ⟨b,off,none⟩) len c) (.int k i)=if 0<=i/\i<len then some (.pointer (some ⟨b,off+i.toNat*7,none⟩)) else none:=xp (e:=134) (by kernel_rfl) (by kernel_rfl)
theorem OU(b off:Nat)(k:IntKind)(i:Int):zA Tryz.prog 130 (.pointer (some ⟨b,off,none⟩)) (.int k i)=if 0<=i/\i<6 then some (.pointer (some ⟨b,off+i.toNat*1,none⟩)) else none:=UY (e:=3) (len:=6) (by kernel_rfl) (by kernel_rfl)
theorem I7(b off len c:Nat)(k:IntKind)(i:Int):zA Tryz.prog 22 (.slice (some ⟨b,off,none⟩) len c) (.int k i)=if 0<=i/\i<len then some (.pointer (some ⟨b,off+i.toNat*1,none⟩)) else none:=xp (e:=3) (by kernel_rfl) (by kernel_rfl)
theorem Bo(b off len c:Nat)(k:IntKind)(i:Int):zA Tryz.prog 23 (.slice (some ⟨b,off,none⟩) len c) (.int k i)=if 0<=i/\i<len then some (.pointer (some ⟨b,off+i.toNat*2,none⟩)) else none:=xp (e:=47) (by kernel_rfl) (by kernel_rfl)
theorem I8(b off len c:Nat)(k:IntKind)(i:Int):zA Tryz.prog 26 (.slice (some ⟨b,off,none⟩) len c) (.int k i)=if 0<=i/\i<len then some (.pointer (some ⟨b,off+i.toNat*1,none⟩)) else none:=xp (e:=2) (by kernel_rfl) (by kernel_rfl)
theorem eW(b off len c:Nat)(k:IntKind)(i:Int):zA Tryz.prog 45 (.slice (some ⟨b,off,none⟩) len c) (.int k i)=if 0<=i/\i<len then some (.pointer (some ⟨b,off+i.toNat*7,none⟩)) else none:=xp (e:=50) (by kernel_rfl) (by kernel_rfl)
theorem qT(b off:Nat)(k:IntKind)(i:Int):zA Tryz.prog 65 (.pointer (some ⟨b,off,none⟩)) (.int k i)=if 0<=i/\i<16 then some (.pointer (some ⟨b,off+i.toNat*3,none⟩)) else none:=UY (e:=64) (len:=16) (by kernel_rfl) (by kernel_rfl)
theorem sj(r:TypeId)(a:Option Addr)(n c:Nat)(h:za):zk Tryz.prog .len [106] r [.slice a n c] h=some (.int .i64 n,h):=zE (by kernel_rfl)
theorem sk(r:TypeId)(a:Option Addr)(n c:Nat)(h:za):zk Tryz.prog .len [22] r [.slice a n c] h=some (.int .i64 n,h):=zE (by kernel_rfl)
theorem dV(r:TypeId)(a:Option Addr)(n c:Nat)(h:za):zk Tryz.prog .len [23] r [.slice a n c] h=some (.int .i64 n,h):=zE (by kernel_rfl)
theorem lE(r:TypeId)(a:Option Addr)(n c:Nat)(h:za):zk Tryz.prog .len [26] r [.slice a n c] h=some (.int .i64 n,h):=zE (by kernel_rfl)
theorem lF(r:TypeId)(a:Option Addr)(n c:Nat)(h:za):zk Tryz.prog .len [45] r [.slice a n c] h=some (.int .i64 n,h):=zE (by kernel_rfl)
theorem Lj(x y:Operand)(a0:Int)(a1:Int)(a2:Int)(b0:Int)(b1:Int)(b2:Int):ze Tryz.prog .neq 64 x y (.agg #[(.int .i64 a0),(.int .i64 a1),(.int .i64 a2)]) (.agg #[(.int .i64 b0),(.int .i64 b1),(.int .i64 b2)])=some (.bool (!((a0 == b0)&&((a1 == b1)&&((a2 == b2)))))):=(WK (fs:=iX) (r:=(a0 == b0)&&((a1 == b1)&&((a2 == b2)))) (by kernel_rfl) (by kernel_rfl) (by kernel_rfl) rfl rfl (Eq.trans (b:=(cond (a0 == b0) (cond (a1 == b1) (cond (a2 == b2) (some true) (some false)) (some false)) (some false))) (by kernel_rfl) (by cases (a0 == b0) <;> cases (a1 == b1) <;> cases (a2 == b2) <;> rfl))).2
theorem Ps(b off len c:Nat)(lo hi:Option Value)(h:za):Il Tryz.prog 106 (.slice (some ⟨b,off,none⟩) len c) lo hi h=(qP hi len len).bind λhh=>(qP lo 0 hh).bind λl=>some (.slice (some ⟨b,off+l*7,none⟩) (hh-l) (cond (wide Tryz.prog h b 7) (JH c l) 0)):=F4 (e:=134) (by kernel_rfl) (by kernel_rfl)
end Go.As
namespace Go.Rm
open Go.Ai Go.Proofs Go.Proofs.Tryz
noncomputable abbrev zz:=prog
abbrev VK:=Value->za->Prop
abbrev LK:=List Value->za->Prop
abbrev ci(n:Int):Operand := .const (.int .i64 n)
abbrev fn(n:Nat):Value := .func (.func n) #[] #[]
variable {h:za}{t0 t1 t2 t3 t4 t5 t6:Value}{R:VK}
def qs:FuncId->Nat:=λg=>[0,0,0,0,0,0,0,0,0,0,0,0,0,0,0,0,0,0,0,0,0,0,0,0,0,0,0,0,0,0,0,0,0,0,0,0,0,0,0,0,0,0,0,0,0,0,0,0,0,0,0,0,0,0,0,0,0,0,0,0,3,3,0,0,2,0,0,0,0,0,0,0,0,0,0,0,0,0,0,0,0,0,0,0,0,0,0,2,0,0,0,2,0,0,0,0,0,0,0,0,0,0,0,0,0,0,0,0,0,2].getD g 0
theorem mixed:prog.follows .mixedOrders=true:=ab6 Tryz.checked
theorem q9{f:FuncId}{args:List Value}{X:Prop}(e:Vz zz (uI zz qs) 200 f args h R=X)(hw:X):DC zz f args h R:=yT mixed (q:=qs) (n:=200) (Eq.mpr e hw)
def Hv:=λa (d:za) (R:VK) (f:LK)=>
 opt (nb [] (yU zz 64 [])) λb=>opt (nb [b] (zn zz 64 a b d)) λc=>opt (zd zz 64 a c) λe=>rv [e,.bool false] c R
def Hw:=λg (a:za) b (R:VK) (n:LK)=>
 opt (zb zz 64 g 1) λh=>opt (zd zz 2 h a) λc=>xK (nb [c] (qE zz 2 21 c a)) λd i=>xK (nb [d] (qE zz 21 2 d i)) λj k=>zR zz (fn 64) [j] k (λe l=>opt (nb [e] (zn zz 64 b e l)) λf=>opt (zd zz 64 b f) λm=>rv [m,.bool true] f R)
def Hx:=λg (a:za) b (R:VK) (n:LK)=>
 opt (zb zz 64 g 1) λh=>opt (zd zz 2 h a) λc=>xK (nb [c] (qE zz 2 196 c a)) λd i=>xK (nb [d] (qE zz 196 2 d i)) λj k=>zR zz (fn 64) [j] k (λe l=>opt (nb [e] (zn zz 64 b e l)) λf=>opt (zd zz 64 b f) λm=>rv [m,.bool true] f R)
def Cj:=λa c (b:za) d (R:VK) e (f:LK)=>
 opt (nb [a,.int .i64 4] (ze zz .eql 3 (.tmp 10) (.const (.int .i64 4)) a (.int .i64 4))) λg=>CD g (Hw c b d R)
 (λh=>h [nth e 0] b)
 (λi j=>f [nth i 0] j)
def Hy:=λe (a:za) b (R:VK) (k:LK)=>
 opt (zb zz 64 e 1) λf=>opt (zd zz 2 f a) λg=>opt (dH zz .xor g) λh=>zR zz (fn 64) [h] a (λc i=>opt (nb [c] (zn zz 64 b c i)) λd=>opt (zd zz 64 b d) λj=>rv [j,.bool true] d R)
def pU:=λa b (c:za) d (R:VK) e (f:LK)=>
 opt (nb [a,.int .i64 3] (ze zz .eql 3 (.tmp 10) (.const (.int .i64 3)) a (.int .i64 3))) λg=>CD g (Hx b c d R)
 (Cj a b c d R e)
 (λh i=>f [nth h 0] i)
def Hz:=λe (a:za) b (R:VK) (k:LK)=>
 opt (zb zz 64 e 1) λf=>opt (zd zz 2 f a) λg=>opt (dH zz .neg g) λh=>zR zz (fn 64) [h] a (λc i=>opt (nb [c] (zn zz 64 b c i)) λd=>opt (zd zz 64 b d) λj=>rv [j,.bool true] d R)
def gu:=λa b (c:za) d (R:VK) e (f:LK)=>
 opt (nb [a,.int .i64 2] (ze zz .eql 3 (.tmp 10) (.const (.int .i64 2)) a (.int .i64 2))) λg=>CD g (Hy b c d R)
 (pU a b c d R e)
 (λh i=>f [nth h 0] i)
def cK:=λa b (c:za) d (R:VK) e (f:LK)=>
 opt (nb [a,.int .i64 1] (ze zz .eql 3 (.tmp 10) (ci 1) a (.int .i64 1))) λg=>CD g (Hz b c d R)
 (gu a b c d R e)
 (λh i=>f [nth h 0] i)
def Eg:=λa (R:VK) (f:List Value) (d:za)=>
 opt (nb [] (yU zz 64 [])) λb=>opt (nb [b] (zn zz 64 a b d)) λc=>opt (zd zz 64 a c) λe=>rv [e,.bool false] c R
def PU:=λ(h:za) f b (R:VK)=>
 opt (nb [b] (some (Value.cells b).toList)) λg=>nw h g 64 λc i=>opt (wD zz 64) λj=>nw i (Value.cells j).toList 64 λa d=>opt (zd zz 64 c d) λk=>zR zz (fn 110) [k] d (λl e=>opt (dH zz .not l) λm=>CD m (Hv a e R)
 (λn=>n [.bool false] e)
 (λo p=>BK (cK f c p a R o)
 (Eg a R)))
theorem Me(hw:PU h t0 t1 R):DC zz 109 [t0,t1] h R:=q9 (by kernel_rfl) hw
def Kk:=λa (R:VK) b (e:za)=>
 opt (WM b 0) λc=>opt (WM b 1) λf=>opt (nb [c] (zn zz 64 a c e)) λd=>opt (zd zz 64 a d) λg=>rv [g,f] d R
def kx:=λa (R:VK) b (e:za)=>
 opt (WM b 0) λc=>opt (WM b 1) λf=>opt (nb [c] (zn zz 64 a c e)) λd=>opt (zd zz 64 a d) λg=>rv [g,f] d R
def wj:=λc d e f g (R:VK) (h:LK) i (a:za)=>
 opt (pk c (.bool true) i) λj=>CD j (λb=>opt (zd zz 64 d a) λk=>opt (zd zz 64 e a) λl=>zR zz (fn 113) [f,k,l] a (kx g R))
 (λb=>b [.bool false] a)
 (λm n=>h [nth m 0] n)
def wk:=λa d e f g (R:VK) (h:LK) b (c:za)=>
 GD a false (λi=>opt (nb [b,.int .i64 22] (ze zz .eql 3 (.tmp 84) (.const (.int .i64 22)) b (.int .i64 22))) λj=>i j c) (wj a d e f g R h) c
def Ee:=λb (a:za) h c (R:VK) (p:LK)=>
 opt (zb zz 64 b 2) λi=>opt (zd zz 3 i a) λj=>opt (zb zz 64 b 1) λk=>opt (zd zz 2 k a) λd=>opt (zb zz 64 h 1) λl=>opt (zd zz 2 l a) λe=>opt (nb [d,e] (ze zz .sub 2 (.tmp 75) (.tmp 77) d e)) λm=>zR zz (fn 87) [j,m] a (λf n=>opt (nb [f] (zn zz 64 c f n)) λg=>opt (zd zz 64 c g) λo=>rv [o,.bool true] g R)
def wm:=λa (b:za) d e f (R:VK) (g:LK)=>
 opt (nb [a,.int .i64 21] (ze zz .eql 3 (.tmp 81) (.const (.int .i64 21)) a (.int .i64 21))) λc=>GD c false (λh=>h a b) (wk c d e a f R g) b
def xR:=λb c d e (R:VK) h (i:LK) j (f:za)=>
 GD b true (λk=>zR zz (fn 110) [j] f (λa l=>k a l)) (λa g=>opt (pk b a (.bool false)) λm=>CD m (Ee c g d e R)
 (wm h g c d e R)
 (λn o=>i [nth n 0] o)) f
def xS:=λc d g h (R:VK) i (j:LK) k (e:za)=>
 GD c true (λl=>zR zz (fn 112) [k] e (λa m=>l a m)) (λa b=>opt (pk c a (.bool false)) λf=>GD f true (λn=>opt (zd zz 64 d b) λo=>n o b) (xR f g d h R i j) b) e
def Ef:=λb (a:za) h c (R:VK) (p:LK)=>
 opt (zb zz 64 b 2) λi=>opt (zd zz 3 i a) λj=>opt (zb zz 64 h 1) λk=>opt (zd zz 2 k a) λd=>opt (zb zz 64 b 1) λl=>opt (zd zz 2 l a) λe=>opt (nb [d,e] (ze zz .add 2 (.tmp 56) (.tmp 58) d e)) λm=>zR zz (fn 87) [j,m] a (λf n=>opt (nb [f] (zn zz 64 c f n)) λg=>opt (zd zz 64 c g) λo=>rv [o,.bool true] g R)
def yK:=λa c (b:za) e f (R:VK) (g:LK)=>
 opt (nb [a,.int .i64 12] (ze zz .eql 3 (.tmp 62) (.const (.int .i64 12)) a (.int .i64 12))) λd=>GD d true (λh=>opt (zd zz 64 c b) λi=>h i b) (xS d e c f R a g) b
def yE:=λb c d e (R:VK) h (i:LK) j (f:za)=>
 GD b true (λk=>zR zz (fn 112) [j] f (λa l=>k a l)) (λa g=>opt (pk b a (.bool false)) λm=>CD m (Ef c g d e R)
 (yK h d g c e R)
 (λn o=>i [nth n 0] o)) f
def yF:=λc d g h (R:VK) i (j:LK) k (e:za)=>
 GD c true (λl=>zR zz (fn 110) [k] e (λa m=>l a m)) (λa b=>opt (pk c a (.bool false)) λf=>GD f true (λn=>opt (zd zz 64 d b) λo=>n o b) (yE f d g h R i j) b) e
def ta:=λb (a:za) h c (R:VK) (p:LK)=>
 opt (zb zz 64 b 2) λi=>opt (zd zz 3 i a) λj=>opt (zb zz 64 b 1) λk=>opt (zd zz 2 k a) λd=>opt (zb zz 64 h 1) λl=>opt (zd zz 2 l a) λe=>opt (nb [d,e] (ze zz .add 2 (.tmp 37) (.tmp 39) d e)) λm=>zR zz (fn 87) [j,m] a (λf n=>opt (nb [f] (zn zz 64 c f n)) λg=>opt (zd zz 64 c g) λo=>rv [o,.bool true] g R)
def yG:=λa c (b:za) e f (R:VK) (g:LK)=>
 opt (nb [a,.int .i64 11] (ze zz .eql 3 (.tmp 43) (.const (.int .i64 11)) a (.int .i64 11))) λd=>GD d true (λh=>opt (zd zz 64 c b) λi=>h i b) (yF d e c f R a g) b
def yz:=λb c d e (R:VK) h (i:LK) j (f:za)=>
 GD b true (λk=>zR zz (fn 110) [j] f (λa l=>k a l)) (λa g=>opt (pk b a (.bool false)) λm=>CD m (ta c g d e R)
 (yG h c g d e R)
 (λn o=>i [nth n 0] o)) f
def yA:=λc d g h (R:VK) i (j:LK) k (e:za)=>
 GD c true (λl=>zR zz (fn 112) [k] e (λa m=>l a m)) (λa b=>opt (pk c a (.bool false)) λf=>GD f true (λn=>opt (zd zz 64 d b) λo=>n o b) (yz f g d h R i j) b) e
def Ug:=λb (a:za) c d e (R:VK) (j:LK)=>
 opt (zb zz 64 b 1) λf=>opt (zd zz 2 f a) λg=>opt (zb zz 64 c 1) λh=>opt (zd zz 2 h a) λi=>zR zz (fn 111) [d,g,i] a (Kk e R)
def yB:=λa c (b:za) e f (R:VK) (g:LK)=>
 opt (nb [a,.int .i64 11] (ze zz .eql 3 (.tmp 24) (.const (.int .i64 11)) a (.int .i64 11))) λd=>GD d true (λh=>opt (zd zz 64 c b) λi=>h i b) (yA d e c f R a g) b
def yh:=λb c d e f (R:VK) (i:LK) j (g:za)=>
 GD b true (λk=>zR zz (fn 110) [j] g (λa l=>k a l)) (λa h=>opt (pk b a (.bool false)) λm=>CD m (Ug c h d e f R)
 (yB e c h d f R)
 (λn o=>i [nth n 0] o)) g
def td:=λb (c:za) d f g (R:VK) (h:LK)=>
 opt (zd zz 64 b c) λi=>zR zz (fn 110) [i] c (λe a=>GD e true (λj=>opt (zd zz 64 d a) λk=>j k a) (yh e b d f g R h) a)
def vR:=λa (R:VK) (f:List Value) (d:za)=>
 opt (nb [] (yU zz 64 [])) λb=>opt (nb [b] (zn zz 64 a b d)) λc=>opt (zd zz 64 a c) λe=>rv [e,.bool false] c R
def NA:=λ(h:za) d a b (R:VK)=>
 opt (nb [a] (some (Value.cells a).toList)) λe=>nw h e 64 λf g=>opt (nb [b] (some (Value.cells b).toList)) λi=>nw g i 64 λj k=>opt (wD zz 64) λl=>nw k (Value.cells l).toList 64 λc m=>BK (td f m j d c R)
 (vR c R)
theorem Hq(hw:NA h t0 t1 t2 R):DC zz 91 [t0,t1,t2] h R:=q9 (by kernel_rfl) hw
def En:=λa b c (R:VK) (h:List Value) (f:za)=>
 opt (nb [.int .i64 2,a,b] (yU zz 64 [(0,(.int .i64 2)),(1,a),(2,b)])) λd=>opt (nb [d] (zn zz 64 c d f)) λe=>opt (zd zz 64 c e) λg=>rv [g] e R
def NB:=λ(h:za) a g (R:VK)=>
 opt (wD zz 64) λi=>nw h (Value.cells i).toList 64 λb c=>opt (nb [a,.int .i64 1] (ze zz .lss 3 (.tmp 5) (ci 1) a (.int .i64 1))) λj=>CD j (λd=>opt (nb [] (yU zz 64 [])) λe=>opt (nb [e] (zn zz 64 b e c)) λf=>opt (zd zz 64 b f) λk=>rv [k] f R)
 (λd=>d [] c)
 (En g a b R)
theorem HQ(hw:NB h t0 t1 R):DC zz 87 [t0,t1] h R:=q9 (by kernel_rfl) hw
def tE:=λb (R:VK) (l:List Value) (a:za)=>
 opt (vd b) λd=>opt (zb zz 151 d 0) λe=>opt (zd zz 26 e a) λf=>opt (vd b) λg=>opt (zb zz 151 g 1) λh=>opt (zd zz 3 h a) λc=>opt (nb [c,.int .i64 1] (ze zz .sub 3 (.tmp 27) (ci 1) c (.int .i64 1))) λi=>opt (zA zz 26 f i) λj=>opt (zd zz 2 j a) λk=>rv [k] a R
def Hr:=λ(h:za) a (R:VK)=>
 opt (vd a) λj=>opt (zb zz 151 j 1) λk=>opt (zd zz 3 k h) λc=>opt (nb [c,.int .i64 1] (ze zz .add 3 (.tmp 6) (ci 1) c (.int .i64 1))) λd=>opt (vd a) λl=>opt (zb zz 151 l 1) λm=>opt (nb [d] (zn zz 3 m d h)) λb=>opt (vd a) λn=>opt (zb zz 151 n 1) λo=>opt (zd zz 3 o b) λe=>opt (vd a) λp=>opt (zb zz 151 p 0) λq=>opt (zd zz 26 q b) λf=>xK (nb [f] (zk zz .len [26] 3 [f] b)) λg _=>opt (nb [e,g] (ze zz .gtr 3 (.tmp 13) (.tmp 18) e g)) λr=>CD r (λi=>rv [.int .i64 0] b R)
 (λi=>i [.int .i64 0] b)
 (tE a R)
theorem Fw(hw:Hr h t0 R):DC zz 95 [t0] h R:=q9 (by kernel_rfl) hw
def cV:=λb (R:VK) d (c:za)=>
 GD b true (λe=>zR zz (fn 125) [d] c (λa f=>e a f)) (λa g=>opt (pk b a (.bool false)) λh=>rv [h] g R) c
def Ek:=λ(h:za) b (R:VK)=>
 opt (nb [b] (some (Value.cells b).toList)) λf=>nw h f 64 λc a=>opt (zb zz 64 c 0) λg=>opt (zd zz 3 g a) λd=>opt (nb [d,.int .i64 1] (ze zz .eql 3 (.tmp 4) (ci 1) d (.int .i64 1))) λe=>GD e true (λi=>opt (zd zz 64 c a) λj=>i j a) (cV e R) a
theorem Cz(hw:Ek h t0 R):DC zz 110 [t0] h R:=q9 (by kernel_rfl) hw
def cW:=λb (R:VK) d (c:za)=>
 GD b true (λe=>zR zz (fn 125) [d] c (λa f=>e a f)) (λa g=>opt (pk b a (.bool false)) λh=>rv [h] g R) c
def El:=λ(h:za) b (R:VK)=>
 opt (nb [b] (some (Value.cells b).toList)) λf=>nw h f 64 λc a=>opt (zb zz 64 c 0) λg=>opt (zd zz 3 g a) λd=>opt (nb [d,.int .i64 2] (ze zz .eql 3 (.tmp 4) (.const (.int .i64 2)) d (.int .i64 2))) λe=>GD e true (λi=>opt (zd zz 64 c a) λj=>i j a) (cW e R) a
theorem CA(hw:El h t0 R):DC zz 112 [t0] h R:=q9 (by kernel_rfl) hw
def QL:=λa (d:za) (R:VK) (f:LK)=>
 opt (nb [] (yU zz 64 [])) λb=>opt (nb [b] (zn zz 64 a b d)) λc=>opt (zd zz 64 a c) λe=>rv [e,.bool false] c R
def hO:=λa b (f:za) c (R:VK) (j:LK)=>
 opt (nb [a,b] (ze zz .quo 2 (.tmp 43) (.tmp 44) a b)) λg=>zR zz (fn 64) [g] f (λd h=>opt (nb [d] (zn zz 64 c d h)) λe=>opt (zd zz 64 c e) λi=>rv [i,.bool true] e R)
def hQ:=λa b c (R:VK) (j:List Value) (f:za)=>
 opt (nb [a,b] (ze zz .rem 2 (.tmp 47) (.tmp 48) a b)) λg=>zR zz (fn 64) [g] f (λd h=>opt (nb [d] (zn zz 64 c d h)) λe=>opt (zd zz 64 c e) λi=>rv [i,.bool true] e R)
def QM:=λa b c d (R:VK) f (e:za)=>
 opt (nb [a,.int .i64 14] (ze zz .eql 3 (.tmp 41) (.const (.int .i64 14)) a (.int .i64 14))) λg=>CD g (hO b c e d R)
 (λh=>h [nth f 0] e)
 (hQ b c d R)
def Y7:=λb f c (R:VK) g h i j (d:za)=>
 GD b false (λk=>opt (pk f j (.bool false)) λa=>k a d) (λa e=>opt (pk b (.bool true) a) λl=>CD l (QL c e R)
 (λm=>m [.bool false] e)
 (QM g h i c R)) d
def Y8:=λa d e (R:VK) f g h b (c:za)=>
 GD a true (λi=>opt (nb [b,.int .i64 (-1)] (ze zz .eql 2 (.tmp 36) (.const (.int .i64 (-1))) b (.int .i64 (-1)))) λj=>i j c) (Y7 d a e R f g h) c
def Y9:=λa c i (R:VK) j k d (e:za)=>
 GD a false (λl=>opt (nb [d,.int .i64 (-9223372036854775808)] (ze zz .eql 2 (.tmp 33) (.const (.int .i64 (-9223372036854775808))) d (.int .i64 (-9223372036854775808)))) λb=>l b e) (λb f=>GD a false (λm=>m b f) (λg h=>GD g true (λn=>n c h) (Y8 g a i R j k c) h) f) e
def QN:=λa (d:za) (R:VK) (f:LK)=>
 opt (nb [] (yU zz 64 [])) λb=>opt (nb [b] (zn zz 64 a b d)) λc=>opt (zd zz 64 a c) λe=>rv [e,.bool false] c R
def tZ:=λa b (f:za) c (R:VK) (j:LK)=>
 opt (nb [a,b] (ze zz .shl 2 (.tmp 81) (.tmp 82) a b)) λg=>zR zz (fn 64) [g] f (λd h=>opt (nb [d] (zn zz 64 c d h)) λe=>opt (zd zz 64 c e) λi=>rv [i,.bool true] e R)
def nD:=λa b c (R:VK) (j:List Value) (f:za)=>
 opt (nb [a,b] (ze zz .shr 2 (.tmp 85) (.tmp 86) a b)) λg=>zR zz (fn 64) [g] f (λd h=>opt (nb [d] (zn zz 64 c d h)) λe=>opt (zd zz 64 c e) λi=>rv [i,.bool true] e R)
def cT:=λa b c d (R:VK) f (e:za)=>
 opt (nb [a,.int .i64 19] (ze zz .eql 3 (.tmp 79) (.const (.int .i64 19)) a (.int .i64 19))) λg=>CD g (tZ b c e d R)
 (λh=>h [nth f 0] e)
 (nD b c d R)
def Xr:=λb c (R:VK) g h i d (e:za)=>
 GD b false (λj=>opt (nb [d,.int .i64 63] (ze zz .gtr 2 (.tmp 75) (.const (.int .i64 63)) d (.int .i64 63))) λa=>j a e) (λa f=>opt (pk b (.bool true) a) λk=>CD k (QN c f R)
 (λl=>l [.bool false] f)
 (cT g h i c R)) e
def nE:=λa b (f:za) c (R:VK) (j:LK)=>
 opt (nb [a,b] (ze zz .geq 2 (.tmp 121) (.tmp 122) a b)) λg=>zR zz (fn 127) [g] f (λd h=>opt (nb [d] (zn zz 64 c d h)) λe=>opt (zd zz 64 c e) λi=>rv [i,.bool true] e R)
def nF:=λa b (f:za) c (R:VK) (j:LK)=>
 opt (nb [a,b] (ze zz .gtr 2 (.tmp 115) (.tmp 116) a b)) λg=>zR zz (fn 127) [g] f (λd h=>opt (nb [d] (zn zz 64 c d h)) λe=>opt (zd zz 64 c e) λi=>rv [i,.bool true] e R)
def cU:=λa c d (b:za) e (R:VK) (f:LK)=>
 opt (nb [a,.int .i64 26] (ze zz .eql 3 (.tmp 8) (.const (.int .i64 26)) a (.int .i64 26))) λg=>CD g (nE c d b e R)
 (λh=>h [.bool false] b)
 (λi j=>f [nth i 0] j)
def nG:=λa b (f:za) c (R:VK) (j:LK)=>
 opt (nb [a,b] (ze zz .leq 2 (.tmp 109) (.tmp 110) a b)) λg=>zR zz (fn 127) [g] f (λd h=>opt (nb [d] (zn zz 64 c d h)) λe=>opt (zd zz 64 c e) λi=>rv [i,.bool true] e R)
def KC:=λa b c (d:za) e (R:VK) (f:LK)=>
 opt (nb [a,.int .i64 25] (ze zz .eql 3 (.tmp 8) (.const (.int .i64 25)) a (.int .i64 25))) λg=>CD g (nF b c d e R)
 (cU a b c d e R)
 (λh i=>f [nth h 0] i)
def nH:=λa b (f:za) c (R:VK) (j:LK)=>
 opt (nb [a,b] (ze zz .lss 2 (.tmp 103) (.tmp 104) a b)) λg=>zR zz (fn 127) [g] f (λd h=>opt (nb [d] (zn zz 64 c d h)) λe=>opt (zd zz 64 c e) λi=>rv [i,.bool true] e R)
def Ui:=λa b c (d:za) e (R:VK) (f:LK)=>
 opt (nb [a,.int .i64 24] (ze zz .eql 3 (.tmp 8) (.const (.int .i64 24)) a (.int .i64 24))) λg=>CD g (nG b c d e R)
 (KC a b c d e R)
 (λh i=>f [nth h 0] i)
def nI:=λa b (f:za) c (R:VK) (j:LK)=>
 opt (nb [a,b] (ze zz .neq 2 (.tmp 97) (.tmp 98) a b)) λg=>zR zz (fn 127) [g] f (λd h=>opt (nb [d] (zn zz 64 c d h)) λe=>opt (zd zz 64 c e) λi=>rv [i,.bool true] e R)
def WU:=λa b c (d:za) e (R:VK) (f:LK)=>
 opt (nb [a,.int .i64 23] (ze zz .eql 3 (.tmp 8) (.const (.int .i64 23)) a (.int .i64 23))) λg=>CD g (nH b c d e R)
 (Ui a b c d e R)
 (λh i=>f [nth h 0] i)
def nJ:=λa b (f:za) c (R:VK) (j:LK)=>
 opt (nb [a,b] (ze zz .eql 2 (.tmp 91) (.tmp 92) a b)) λg=>zR zz (fn 127) [g] f (λd h=>opt (nb [d] (zn zz 64 c d h)) λe=>opt (zd zz 64 c e) λi=>rv [i,.bool true] e R)
def Xs:=λa b c (d:za) e (R:VK) (f:LK)=>
 opt (nb [a,.int .i64 22] (ze zz .eql 3 (.tmp 8) (.const (.int .i64 22)) a (.int .i64 22))) λg=>CD g (nI b c d e R)
 (WU a b c d e R)
 (λh i=>f [nth h 0] i)
def Xt:=λa (b:za) d (R:VK) e f (h:LK)=>
 opt (nb [a,.int .i64 0] (ze zz .lss 2 (.tmp 72) (ci 0) a (.int .i64 0))) λc=>GD c false (λg=>g a b) (Xr c d R e f a) b
def YM:=λa b c (d:za) e (R:VK) (f:LK)=>
 opt (nb [a,.int .i64 21] (ze zz .eql 3 (.tmp 8) (.const (.int .i64 21)) a (.int .i64 21))) λg=>CD g (nJ b c d e R)
 (Xs a b c d e R)
 (λh i=>f [nth h 0] i)
def nK:=λa b (f:za) c (R:VK) (j:LK)=>
 opt (nb [a,b] (ze zz .xor 2 (.tmp 65) (.tmp 66) a b)) λg=>zR zz (fn 64) [g] f (λd h=>opt (nb [d] (zn zz 64 c d h)) λe=>opt (zd zz 64 c e) λi=>rv [i,.bool true] e R)
def qB:=λa (c:za) d e (R:VK) f (i:LK)=>
 opt (nb [a,.int .i64 19] (ze zz .eql 3 (.tmp 8) (.const (.int .i64 19)) a (.int .i64 19))) λg=>CD g (λb=>b [g] c)
 (λb=>opt (nb [a,.int .i64 20] (ze zz .eql 3 (.tmp 8) (.const (.int .i64 20)) a (.int .i64 20))) λj=>b [j] c)
 (λk h=>CD (nth k 0) (Xt d h e R a f)
 (YM a f d h e R)
 (λl m=>i [nth l 0] m))
def nL:=λa b (f:za) c (R:VK) (j:LK)=>
 opt (nb [a,b] (ze zz .or 2 (.tmp 59) (.tmp 60) a b)) λg=>zR zz (fn 64) [g] f (λd h=>opt (nb [d] (zn zz 64 c d h)) λe=>opt (zd zz 64 c e) λi=>rv [i,.bool true] e R)
def u9:=λa b c (d:za) e (R:VK) (f:LK)=>
 opt (nb [a,.int .i64 18] (ze zz .eql 3 (.tmp 8) (.const (.int .i64 18)) a (.int .i64 18))) λg=>CD g (nK b c d e R)
 (qB a d c e R b)
 (λh i=>f [nth h 0] i)
def nM:=λa b (f:za) c (R:VK) (j:LK)=>
 opt (nb [a,b] (ze zz .and 2 (.tmp 53) (.tmp 54) a b)) λg=>zR zz (fn 64) [g] f (λd h=>opt (nb [d] (zn zz 64 c d h)) λe=>opt (zd zz 64 c e) λi=>rv [i,.bool true] e R)
def uW:=λa b c (d:za) e (R:VK) (f:LK)=>
 opt (nb [a,.int .i64 17] (ze zz .eql 3 (.tmp 8) (.const (.int .i64 17)) a (.int .i64 17))) λg=>CD g (nL b c d e R)
 (u9 a b c d e R)
 (λh i=>f [nth h 0] i)
def ZU:=λa b (c:za) e (R:VK) f (h:LK)=>
 opt (nb [a,.int .i64 0] (ze zz .eql 2 (.tmp 30) (ci 0) a (.int .i64 0))) λd=>GD d false (λg=>g b c) (Y9 d a e R f b) c
def uB:=λa b c (d:za) e (R:VK) (f:LK)=>
 opt (nb [a,.int .i64 16] (ze zz .eql 3 (.tmp 8) (.const (.int .i64 16)) a (.int .i64 16))) λg=>CD g (nM b c d e R)
 (uW a b c d e R)
 (λh i=>f [nth h 0] i)
def nN:=λa b (f:za) c (R:VK) (j:LK)=>
 opt (nb [a,b] (ze zz .mul 2 (.tmp 23) (.tmp 24) a b)) λg=>zR zz (fn 64) [g] f (λd h=>opt (nb [d] (zn zz 64 c d h)) λe=>opt (zd zz 64 c e) λi=>rv [i,.bool true] e R)
def wE:=λa (c:za) d e f (R:VK) (i:LK)=>
 opt (nb [a,.int .i64 14] (ze zz .eql 3 (.tmp 8) (.const (.int .i64 14)) a (.int .i64 14))) λg=>CD g (λb=>b [g] c)
 (λb=>opt (nb [a,.int .i64 15] (ze zz .eql 3 (.tmp 8) (.const (.int .i64 15)) a (.int .i64 15))) λj=>b [j] c)
 (λk h=>CD (nth k 0) (ZU d e h f R a)
 (uB a e d h f R)
 (λl m=>i [nth l 0] m))
def nO:=λa b (f:za) c (R:VK) (j:LK)=>
 opt (nb [a,b] (ze zz .sub 2 (.tmp 17) (.tmp 18) a b)) λg=>zR zz (fn 64) [g] f (λd h=>opt (nb [d] (zn zz 64 c d h)) λe=>opt (zd zz 64 c e) λi=>rv [i,.bool true] e R)
def wy:=λa b c (d:za) e (R:VK) (f:LK)=>
 opt (nb [a,.int .i64 13] (ze zz .eql 3 (.tmp 8) (.const (.int .i64 13)) a (.int .i64 13))) λg=>CD g (nN b c d e R)
 (wE a d c b e R)
 (λh i=>f [nth h 0] i)
def nP:=λa b (f:za) c (R:VK) (j:LK)=>
 opt (nb [a,b] (ze zz .add 2 (.tmp 11) (.tmp 12) a b)) λg=>zR zz (fn 64) [g] f (λd h=>opt (nb [d] (zn zz 64 c d h)) λe=>opt (zd zz 64 c e) λi=>rv [i,.bool true] e R)
def xZ:=λa b c (d:za) e (R:VK) (f:LK)=>
 opt (nb [a,.int .i64 12] (ze zz .eql 3 (.tmp 8) (.const (.int .i64 12)) a (.int .i64 12))) λg=>CD g (nO b c d e R)
 (wy a b c d e R)
 (λh i=>f [nth h 0] i)
def xO:=λa b c (d:za) e (R:VK) (f:LK)=>
 opt (nb [a,.int .i64 11] (ze zz .eql 3 (.tmp 8) (.const (.int .i64 11)) a (.int .i64 11))) λg=>CD g (nP b c d e R)
 (xZ a b c d e R)
 (λh i=>f [nth h 0] i)
def wF:=λa (R:VK) (f:List Value) (d:za)=>
 opt (nb [] (yU zz 64 [])) λb=>opt (nb [b] (zn zz 64 a b d)) λc=>opt (zd zz 64 a c) λe=>rv [e,.bool false] c R
def HM:=λ(h:za) b c d (R:VK)=>
 opt (wD zz 64) λe=>nw h (Value.cells e).toList 64 λa f=>BK (xO b c d f a R)
 (wF a R)
theorem FH(hw:HM h t0 t1 t2 R):DC zz 111 [t0,t1,t2] h R:=q9 (by kernel_rfl) hw
def cL:=λe h (a:za) (i:LK) f=>
 opt (nb [e,f] (ze zz .eql 64 (.tmp 22) (.tmp 23) e f)) λb=>GD b true (λj=>opt (zd zz 64 h a) λc=>j c a) (λc g=>GD b true (λk=>Xa zz 112 [c] g (λd l=>k d l)) (λd m=>opt (pk b d (.bool false)) λn=>i [n] m) g) a
def Kq:=λd e f (g:LK) h (a:za)=>
 opt (pk d h (.bool false)) λc=>CD c (λb=>b [c] a)
 (λb=>opt (zd zz 64 e a) λi=>Z4 zz 64 [.int .i64 0] a (cL i f a b))
 (λj k=>g [nth j 0] k)
def cM:=λb f g (h:LK) d (c:za)=>
 GD b true (λi=>Z4 zz 64 [.int .i64 0] c (λa=>i a c)) (λa e=>GD b true (λj=>opt (nb [d,a] (ze zz .eql 64 (.tmp 18) (.tmp 19) d a)) λk=>j k e) (Kq b f g h) e) c
def cN:=λb (c:za) d (f:LK)=>
 opt (zd zz 64 b c) λg=>Xa zz 112 [g] c (λe a=>GD e true (λh=>opt (zd zz 64 d a) λi=>h i a) (cM e b d f) a)
def cO:=λj (a:za) k b c (R:VK) (o:LK)=>
 opt (zd zz 64 j a) λd=>opt (zd zz 64 k a) λe=>opt (nb [d,e] (ze zz .eql 64 (.tmp 29) (.tmp 30) d e)) λf=>opt (nb [b,.int .i64 21] (ze zz .eql 3 (.tmp 32) (.const (.int .i64 21)) b (.int .i64 21))) λg=>opt (nb [f,g] (ze zz .eql 4 (.tmp 31) (.tmp 33) f g)) λl=>zR zz (fn 127) [l] a (λh m=>opt (nb [h] (zn zz 64 c h m)) λi=>opt (zd zz 64 c i) λn=>rv [n,.bool true] i R)
def Kr:=λf a b g h (R:VK) (i:LK) j (c:za)=>
 opt (pk f j (.bool false)) λd=>CD d (λk=>k [d] c)
 (cN a c b)
 (λl e=>CD (nth l 0) (cO a e b g h R)
 (λm=>m [.bool false] e)
 (λn o=>i [nth n 0] o))
def cP:=λd f g h (R:VK) (i:LK) a (b:za)=>
 GD a true (λj=>opt (zd zz 64 d b) λc=>j c b) (λc e=>GD a true (λk=>zR zz (fn 112) [c] e (λl m=>k l m)) (Kr a f d g h R i) e) b
def cQ:=λa (R:VK) (f:List Value) (d:za)=>
 opt (nb [] (yU zz 64 [])) λb=>opt (nb [b] (zn zz 64 a b d)) λc=>opt (zd zz 64 a c) λe=>rv [e,.bool false] c R
def Eh:=λ(h:za) f a b (R:VK)=>
 opt (nb [a] (some (Value.cells a).toList)) λg=>nw h g 64 λc i=>opt (nb [b] (some (Value.cells b).toList)) λj=>nw i j 64 λk l=>opt (wD zz 64) λm=>nw l (Value.cells m).toList 64 λd e=>BK (λn=>opt (zd zz 64 c e) λo=>zR zz (fn 112) [o] e (cP k c f d R n))
 (cQ d R)
theorem Ck(hw:Eh h t0 t1 t2 R):DC zz 113 [t0,t1,t2] h R:=q9 (by kernel_rfl) hw
def oA:=λ(d:za) a (R:VK) (g:LK)=>
 zR zz (fn 64) [.int .i64 1] d (λb e=>opt (nb [b] (zn zz 64 a b e)) λc=>opt (zd zz 64 a c) λf=>rv [f] c R)
def oB:=λa (R:VK) (g:List Value) (d:za)=>
 zR zz (fn 64) [.int .i64 0] d (λb e=>opt (nb [b] (zn zz 64 a b e)) λc=>opt (zd zz 64 a c) λf=>rv [f] c R)
def Em:=λ(h:za) c (R:VK)=>
 opt (wD zz 64) λd=>nw h (Value.cells d).toList 64 λa b=>CD c (oA b a R)
 (λe=>e [] b)
 (oB a R)
theorem CN(hw:Em h t0 R):DC zz 127 [t0] h R:=q9 (by kernel_rfl) hw
def HN:=λ(h:za) c (R:VK)=>
 zR zz (fn 81) [c] h (λa d=>opt (nb [a] (yU zz 151 [(0,a)])) λb=>opt (nb [b] (some (Value.cells b).toList)) λe=>nw d e 151 λf g=>rv [f] g R)
theorem FQ(hw:HN h t0 R):DC zz 61 [t0] h R:=q9 (by kernel_rfl) hw
def mZ:=λ(h:za) a (R:VK)=>
 opt (nb [a,.slice none 0 0] (ze zz .eql 26 (.tmp 3) (.const (.slice none 0 0)) a (.slice none 0 0))) λd=>CD d (λb=>rv [.slice none 0 0] h R)
 (λb=>b [.slice none 0 0] h)
 (λj e=>xK (nb [] (yC zz 26 0 [] e)) λc f=>xK (nb [c,a] (zk zz .append [26,26] 26 [c,a] f)) λg i=>rv [g] i R)
theorem pO(hw:mZ h t0 R):DC zz 81 [t0] h R:=q9 (by kernel_rfl) hw
end Go.Rm
namespace Go.Ai
open Go.Ai Go.Proofs
theorem NC:L7 26:=yc (by kernel_rfl)
theorem P1:TT 26 2 1 8:=λr v x n w h h1 h2 h3 h4=>Zi (e:=2) (e2:=2) (by kernel_rfl) (by kernel_rfl) (by kernel_rfl) (by kernel_rfl) (by decide) h1 h2 h3 h4
theorem Is(v0:Option Addr)(v0l v0c:Nat):yU Tryz.prog 151 [(0,(.slice v0 v0l v0c))]=some (.agg #[(.slice v0 v0l v0c),(.int .i64 0)]):=zE (by kernel_rfl)
theorem AM(v0:Int)(v1:Int)(v2:Int):yU Tryz.prog 64 [(0,(.int .i64 v0)),(1,(.int .i64 v1)),(2,(.int .i64 v2))]=some (.agg #[(.int .i64 v0),(.int .i64 v1),(.int .i64 v2)]):=zE (by kernel_rfl)
theorem Iy(h:za):yC Tryz.prog 26 0 [] h=some (.slice (some ⟨h.next,0,none⟩) 0 2,h.push (.cells [] 2)):=zE (by kernel_rfl)
theorem IF(n:Int)(h:za):qE Tryz.prog 2 196 (.int .i64 n) h=some (.int .i8 (IntKind.wrap .i8 n),h):=zE (by kernel_rfl)
theorem fM(n:Int)(h:za):qE Tryz.prog 2 21 (.int .i64 n) h=some (.int .i32 (IntKind.wrap .i32 n),h):=zE (by kernel_rfl)
theorem Mz(x y:Operand):ze Tryz.prog .eql 26 x y (.slice none 0 0) (.slice none 0 0)=some (.bool true):=zE (by kernel_rfl)
theorem OL(x y:Operand)(a:Addr)(n c:Nat):ze Tryz.prog .eql 26 x y (.slice (some a) n c) (.slice none 0 0)=some (.bool false):=Pl (e:=2) (by kernel_rfl) a n c
theorem Rs(x y:Operand)(a b:Bool):ze Tryz.prog .eql 4 x y (.bool a) (.bool b)=some (.bool (a == b)):=zE (by kernel_rfl)
theorem Ba:PM 151 0:=λb o=>zE (by kernel_rfl)
theorem iV:Nu 151 1 1:=λb o=>zE (by kernel_rfl)
theorem I8:SM 26 1:=λb o l c k i=>xp (e:=2) (by kernel_rfl) (by kernel_rfl)
theorem lE:S3 26:=λr a n c h=>zE (by kernel_rfl)
end Go.Ai
namespace Go.Rtl
open Go.Ai Go.Proofs
def xz(b:Bool)(v:Value)(_:za):Prop:=v=.bool b
theorem xq{f:FuncId}{args:List Value}{h:za}{b:Bool}(d:DC Tryz.prog f args h.lock (xz b)):vH Tryz.prog f args h (.bool b):=vH.of rfl d
structure Old (h h':za):Prop where
 next:h.next<=h'.next
 ro:h'.ro=h.ro
 get:∀b,b<h.next->h'.get b=h.get b
theorem Old.refl(h:za):Old h h:=⟨aal _,rfl,λ_ _=>rfl⟩
theorem Old.trans{a b c:za}(x:Old a b)(y:Old b c):Old a c:=⟨aaY x.next y.next,y.ro.trans x.ro,λi hi=>(y.get i (aan hi x.next)).trans (x.get i hi)⟩
theorem Old.push(h:za)(o:vg):Old h (h.push o):=⟨abC _,rfl,λb hb=>zL hb⟩
theorem Old.set{h h':za}(x:Old h h'){b:Nat}(hb:h.next<=b)(o:Option vg):Old h (h'.set b o):=⟨x.next,x.ro,λc hc=>(zP (by omega)).trans (x.get c hc)⟩
def zD(h:za)(sv:Value)(zs:List Int):Prop:=(sv=.slice none 0 0/\zs=[]) \/ ∃b off cp,sv=.slice (some ⟨b,off,none⟩) zs.length cp/\(zs≠[]->∃c t,b<h.next/\h.get b=some (.cells c t) /\ ∀(i:Nat) z,zs[i]? = some z->c[off+i]? = some (.int .i64 z))
section
variable {h h':za}{sv:Value}{zs:List Int}
theorem zD.Y0(S:zD h sv zs):yo sv=false:=by
 rcases S with⟨rfl,_⟩|⟨b,off,cp,rfl,_⟩ <;> rfl
theorem zD.iI(S:zD h sv zs):wi sv=true:=by
 rcases S with⟨rfl,_⟩|⟨b,off,cp,rfl,_⟩ <;> rfl
theorem zD.old(S:zD h sv zs)(e:Old h h'):zD h' sv zs:=by
 rcases S with a|⟨b,off,cp,rfl,hc⟩
 ·exact .inl a
 ·refine .inr ⟨b,off,cp,rfl,λhz=>?_⟩;obtain⟨c,t,hb,hg,hat⟩:=hc hz;exact⟨c,t,aan hb e.next,by rw[e.get b hb];exact hg,hat⟩
theorem zD.lock(S:zD h sv zs):zD h.lock sv zs:=by
 rcases S with a|⟨b,off,cp,rfl,hc⟩
 ·exact .inl a
 ·refine .inr ⟨b,off,cp,rfl,λhz=>?_⟩;obtain⟨c,t,hb,hg,hat⟩:=hc hz;exact⟨c,t,hb,by rw[bI];exact hg,hat⟩
end
theorem fU{h:za}(w:Kj h)(o:vg):Kj (h.push o):=⟨λb x hb=>by
 rw[za.vK]at hb;show b<h.next+1;split at hb
 ·rename_i e;omega
 ·have:=w.1 b x hb;omega,abG w.2⟩
theorem wf_set{h:za}(w:Kj h){b:Nat}(hb:b<h.next)(o:Option vg):Kj (h.set b o):=⟨λc x hc=>by
 rw[za.yD]at hc;split at hc
 ·rename_i e;subst e;exact hb
 ·exact w.1 c x hc,w.2⟩
theorem inc{i:Nat}(h:i<4611686018427387904):IntKind.wrap .i64 ((i:Int)+1)=((i+1:Nat):Int):=by
 simp only[IntKind.wrap,IntKind.bits,IntKind.signed];simp;omega
def zT(h:za)(sv:Value)(n:Nat)(rows:List (List Value)):Prop:=(sv=.slice none 0 0/\rows=[]) \/ ∃b off cp,sv=.slice (some ⟨b,off,none⟩) rows.length cp /\
 (rows≠[]->∃c t,b<h.next/\h.get b=some (.cells c t) /\ ∀(i:Nat) r,rows[i]? = some r->off+i*n+n<=c.length/\(c.drop (off+i*n)).take n=r)
section
variable {h h':za}{sv:Value}{n:Nat}{rows:List (List Value)}
theorem zT.Y0(S:zT h sv n rows):yo sv=false:=by
 rcases S with⟨rfl,_⟩|⟨b,off,cp,rfl,_⟩ <;> rfl
theorem zT.iI(S:zT h sv n rows):wi sv=true:=by
 rcases S with⟨rfl,_⟩|⟨b,off,cp,rfl,_⟩ <;> rfl
theorem zT.old(S:zT h sv n rows)(e:Old h h'):zT h' sv n rows:=by
 rcases S with a|⟨b,off,cp,rfl,hc⟩
 ·exact .inl a
 ·refine .inr ⟨b,off,cp,rfl,λhz=>?_⟩;obtain⟨c,t,hb,hg,hat⟩:=hc hz;exact⟨c,t,aan hb e.next,by rw[e.get b hb];exact hg,hat⟩
theorem zT.lock(S:zT h sv n rows):zT h.lock sv n rows:=by
 rcases S with a|⟨b,off,cp,rfl,hc⟩
 ·exact .inl a
 ·refine .inr ⟨b,off,cp,rfl,λhz=>?_⟩;obtain⟨c,t,hb,hg,hat⟩:=hc hz;exact⟨c,t,hb,by rw[bI];exact hg,hat⟩
theorem zT.spot(S:zT h sv n rows){i:Nat}{r:List Value}(hr:rows[i]? = some r)(hn:r.length=n):∃b o c t,(∃off cp,sv=.slice (some ⟨b,off,none⟩) rows.length cp/\o=off+i*n)/\i<rows.length/\b<h.next/\h.get b=some (.cells c t)/\o+n<=c.length/\(c.drop o).take n=r /\ ∀k,k<n->c[o+k]? = r[k]?:=by
 rcases S with⟨rfl,rfl⟩|⟨b,off,cp,rfl,hc⟩
 ·cases hr
 ·have hlt:i<rows.length:=by
   rcases aaA i rows.length with a|a
   ·exact a
   ·rw[aao a]at hr;cases hr
  obtain⟨c,t,hb,hg,hat⟩:=hc (by intro e;subst e;cases hr);obtain⟨h1,h2⟩:=hat i r hr;refine⟨b,off+i*n,c,t,⟨off,cp,rfl,rfl⟩,hlt,hb,hg,h1,h2,λk hk=>?_⟩
  ·rw[<- h2,aaX hk,aaW]
end
theorem Hf{step:List Value->za->(List Value->za->Prop)->Prop}(Q:za->Prop){v:Value}(n:Nat)(G:Nat->Bool){h:za}(h0:Q h)
  (hs:∀i h J,i<=n->Q h->(∀k,k<i->G k=true)->(∀h',i<n->G i=true->Q h'->J [v,.int .i64 ((i+1:Nat):Int)] h')->step [v,.int .i64 (i:Nat)] h J):LP step [v,.int .i64 0] h:=by
 refine jz (λm vs h=>∃i,i<=n/\m=n-i/\vs=[v,.int .i64 (i:Nat)]/\Q h /\ ∀k,k<i->G k=true) n ⟨0,aa5 _,rfl,rfl,h0,λk hk=>absurd hk (Nat.not_lt_zero _)⟩ ?_;rintro m vs h ⟨i,hi,rfl,rfl,e,g⟩;refine hs i h _ hi e g λh' hlt hg e'=>⟨n-(i+1),by omega,i+1,hlt,rfl,rfl,e',λk hk=>?_⟩;rcases aaA k i with q|q
 ·exact g k q
 ·have:k=i:=by omega
  subst this;exact hg
def C2{α:Type}(l:List α)(B:α->Bool)(k:Nat):Bool:=match l[k]? with
 |some x=>B x
 |none=>true
theorem ZX{α:Type}{l:List α}{B:α->Bool}(h:∀k,k<l.length->C2 l B k=true):l.all B=true:=by
 rw[aaJ];intro x hx;obtain⟨k,hk,rfl⟩:=abI hx;have:=h k hk;simpa only[C2,aae hk] using this
theorem WQ{α:Type}{l:List α}{B:α->Bool}{k:Nat}{x:α}(hx:l[k]? = some x)(hb:B x=false):l.all B=false:=by
 rw[List.all_eq_false];exact⟨x,aaG hx,by simp[hb]⟩
theorem U2{α:Type}{l:List α}{B:α->Bool}{k:Nat}{x:α}(hx:l[k]? = some x):C2 l B k=B x:=by simp only[C2,hx]
theorem get_some{α:Type}{l:List α}{k:Nat}(h:k<l.length):∃x,l[k]? = some x/\x∈l:=⟨l[k],aae h,List.getElem_mem h⟩
structure Sub (h h':za):Prop where
 next:h.next<=h'.next
 get:∀b o,b<h.next->h.get b=some o->h'.get b=some o
theorem Sub.refl(h:za):Sub h h:=⟨aal _,λ_ _ _ e=>e⟩
theorem Sub.trans{a b c:za}(x:Sub a b)(y:Sub b c):Sub a c:=⟨aaY x.next y.next,λi o hi e=>y.get i o (aan hi x.next) (x.get i o hi e)⟩
theorem Old.sub{h h':za}(e:Old h h'):Sub h h':=⟨e.next,λb o hb g=>by rw[e.get b hb];exact g⟩
section
variable {h h':za}
theorem zD.sub{sv:Value}{zs:List Int}(S:zD h sv zs)(e:Sub h h'):zD h' sv zs:=by
 rcases S with a|⟨b,off,cp,rfl,hc⟩
 ·exact .inl a
 ·refine .inr ⟨b,off,cp,rfl,λhz=>?_⟩;obtain⟨c,t,hb,hg,hat⟩:=hc hz;exact⟨c,t,aan hb e.next,e.get b _ hb hg,hat⟩
theorem zT.sub{sv:Value}{n:Nat}{rows:List (List Value)}(S:zT h sv n rows)(e:Sub h h'):zT h' sv n rows:=by
 rcases S with a|⟨b,off,cp,rfl,hc⟩
 ·exact .inl a
 ·refine .inr ⟨b,off,cp,rfl,λhz=>?_⟩;obtain⟨c,t,hb,hg,hat⟩:=hc hz;exact⟨c,t,aan hb e.next,e.get b _ hb hg,hat⟩
theorem zT.H7{sv:Value}{n:Nat}{rows:List (List Value)}(S:zT h sv n rows):YP sv=some rows.length:=by
 rcases S with⟨rfl,rfl⟩|⟨b,off,cp,rfl,hc⟩ <;> rfl
theorem No{c:List Value}{off:Nat}{l:List Value}(h:∀(i:Nat) v,l[i]? = some v->c[off+i]? = some v):(l=[]\/off+l.length<=c.length)/\(c.drop off).take l.length=l:=by
 have hle:l=[]\/off+l.length<=c.length:=by
  cases hl:l.length with
  |zero=>exact .inl (abw.1 hl)
  |succ n=>
   have:=h n l[n] (aae (by omega));rcases aaA (off+n) c.length with q|q
   ·exact .inr (by omega)
   ·rw[aao q]at this;cases this
 refine⟨hle,abe λi=>?_⟩;rw[List.getElem?_take,aaW];by_cases hi:i<l.length
 ·rw[aam hi,aae hi];exact h i _ (aae hi)
 ·rw[aak hi,aao (by omega)]
theorem VR{n:Nat}:∀{rows:List (List Value)},(∀r,r∈rows->r.length=n)->∀{i:Nat} {r:List Value} {k:Nat},rows[i]? = some r->k<n->rows.flatten[i*n+k]? = r[k]?
 |[],_,i,r,k,hr,_=>by cases hr
 |r0::rows,hn,0,r,k,hr,hk=>by
  simp only[aaf,aab]at hr;subst hr;rw[aci,abh (by rw[hn _ (by simp)];omega)];simp
 |r0::rows,hn,i+1,r,k,hr,hk=>by
  have h0:=hn r0 (by simp);rw[aci,abl (by rw[h0,acB];omega),h0,show(i+1)*n+k-n=i*n+k by rw[acB];omega];exact VR (λr hr=>hn r (by simp[hr])) (by simpa using hr) hk
theorem wu{n:Nat}:∀{rows:List (List Value)},(∀r,r∈rows->r.length=n)->rows.flatten.length=rows.length*n
 |[],_=>by simp
 |r0::rows,hn=>by
  rw[aci,acu,wu (λr hr=>hn r (by simp[hr])),hn r0 (by simp),aaB,acB];omega
theorem uJ{n:Nat}{rows:List (List Value)}(hn:∀r,r∈rows->r.length=n){i:Nat}{r:List Value}(hr:rows[i]? = some r):i*n+n<=rows.flatten.length/\(rows.flatten.drop (i*n)).take n=r:=by
 have hi:i<rows.length:=by
  rcases aaA i rows.length with a|a
  ·exact a
  ·rw[aao a]at hr;cases hr
 have hl:r.length=n:=hn r (aaG hr)
 constructor
 ·rw[wu hn];have:=abA n (acm hi);rw[acx]at this;exact this
 ·refine abe λk=>?_;rw[List.getElem?_take,aaW];by_cases hk:k<n
  ·rw[aam hk];exact VR hn hr hk
  ·rw[aak hk,aao (by omega)]
theorem zT.first{sv:Value}{n:Nat}{rows:List (List Value)}(S:zT h sv n rows)(h0:0<n)(hn:∀r,r∈rows->r.length=n):vE h rows.length n sv=some rows.flatten:=by
 rcases S with⟨rfl,rfl⟩|⟨b,off,cp,rfl,hc⟩
 ·rfl
 ·cases rows with
  |nil=>unfold vE;simp only[aaz,acD];rfl
  |cons r0 rows=>
   obtain⟨c,t,hb,hg,hat⟩:=hc (by simp)
   obtain⟨h1,h2⟩:=No (c:=c) (off:=off) (l:=(r0::rows).flatten) (λj v hv=>by
    have hj:j<(r0::rows).length*n:=by
     rcases aaA j ((r0::rows).flatten.length) with a|a
     ·rw[wu hn]at a;exact a
     ·rw[aao a]at hv;cases hv
    have hi:j/n<(r0::rows).length:=(Nat.div_lt_iff_lt_mul h0).2 hj;have hk:j%n<n:=Nat.mod_lt _ h0;have hr:(r0::rows)[j/n]? = some (r0::rows)[j/n]:=aae hi;have e:j=j/n*n+j%n:=by rw[Nat.mul_comm];exact(Nat.div_add_mod j n).symm
    rw[e,VR hn hr hk]at hv;obtain⟨_,h4⟩:=hat _ _ hr;rw[<- h4,List.getElem?_take,aam hk,aaW]at hv;rw[e,<- acn];exact hv)
   have hl:=wu hn;rw[hl]at h1 h2;have hne:(r0::rows).length*n≠0:=by rw[aaB];exact Nat.mul_ne_zero (by omega) (by omega)
   have h3:off+(r0::rows).length*n<=c.length:=by
    rcases h1 with e|e
    ·rw[e]at hl;exact absurd hl.symm hne
    ·exact e
   unfold vE;simp only[hg];rw[show Nat.beq ((r0::rows).length*n) 0=false by rw[<- acp,acy];exact hne,aaK,Nat.ble_eq_true_of_le h3,aax,h2]
end
end Go.Rtl
namespace Go.Rm
open Go.Ai Go.Proofs Go.Mem
def isInt(a:V):Bool:=decide (a.k=1)&&Q2 a
def uN(a:V):Bool:=decide (a.k=2)&&Q2 a
def qN(n:Int):V:=⟨1,n,0⟩
def Wv(b:Bool):V:=if b=true then qN 1 else qN 0
abbrev Yo(n:Int):Int:=IntKind.wrap .i64 n
def Wx(f:BitVec 64->BitVec 64->BitVec 64)(a b:Int):Int:=Yo (f (BitVec.ofInt 64 a) (BitVec.ofInt 64 b)).toNat
def Zn(op a b:Int):Option V :=
 if op=11 then some (qN (Yo (a+b))) else if op=12 then some (qN (Yo (a-b))) else if op=13 then some (qN (Yo (a*b)))
 else if op=14\/op=15 then (if b=0\/(a = -9223372036854775808/\b = -1) then none else if op=14 then some (qN (Yo (a.tdiv b))) else some (qN (a.tmod b)))
 else if op=16 then some (qN (Wx (· &&& ·) a b)) else if op=17 then some (qN (Wx (· ||| ·) a b)) else if op=18 then some (qN (Wx (· ^^^ ·) a b))
 else if op=19\/op=20 then (if b<0\/63<b then none else if op=19 then some (qN (Yo (a*2^b.toNat))) else some (qN (a.fdiv (2^b.toNat))))
 else if op=21 then some (Wv (decide (a=b))) else if op=22 then some (Wv (!decide (a=b))) else if op=23 then some (Wv (decide (a<b)))
 else if op=24 then some (Wv (decide (a<=b))) else if op=25 then some (Wv (decide (b<a))) else if op=26 then some (Wv (decide (b<=a))) else none
def qJ(op:Int)(a b:V):Option V :=
 if (uN a&&uN b)||((uN a&&decide (b=qN 0))||(decide (a=qN 0)&&uN b)) then some (Wv (decide (a=b) == decide (op=21))) else none
def yw(op:Int)(a b:V):Option V :=
 if isInt a&&isInt b then Zn op a.n b.n
 else if decide (op=11)&&(uN a&&isInt b) then some (oK a.b (Yo (a.n+b.n)))
 else if decide (op=11)&&(isInt a&&uN b) then some (oK b.b (Yo (a.n+b.n)))
 else if decide (op=12)&&(uN a&&isInt b) then some (oK a.b (Yo (a.n-b.n)))
 else if op=21\/op=22 then qJ op a b else none
def notM(a:Int):Int:=Yo (BitVec.ofInt 64 (-1) ^^^ BitVec.ofInt 64 a).toNat
def fA(op:Int)(a:V):Option V :=
 if isInt a=true then (if op=1 then some (qN (Yo (0-a.n))) else if op=2 then some (qN (notM a.n)) else if op=3 then some (qN (Yo (IntKind.wrap .i8 a.n))) else if op=4 then some (qN (Yo (IntKind.wrap .i32 a.n))) else none) else none
def Dm(l:List V)(r:Int):V:=if r<0 then v0 else l.getD r.toNat v0
def Yl(world:List Int)(used:Int):Int:=if used<0 then 0 else world.getD used.toNat 0
def vX:List Int->MM->List Int->MM×List Int
 |[],M,l=>(M,l)
 |n::ns,M,l=>vX ns ((UC (w7 M n).1 (w7 M n).2.1).getD (w7 M n).1) (l++[(w7 M n).2.1])
abbrev vv(a:V):Value := .agg #[.int .i64 a.k,.int .i64 a.n,.int .i64 a.b]
def XG(u:Value)(v:Value)(_:za):Prop:=v=u
theorem jn{f:FuncId}{args:List Value}{h:za}{u:Value}(hs:eE u=true)(d:DC Tryz.prog f args h.lock (XG u)):vH Tryz.prog f args h u:=vH.of hs d
def qh(o:Option V):Value := .tuple #[vv (o.getD v0),.bool o.isSome]
theorem ZZ(n:Int)(h:za):vH Tryz.prog 64 [.int .i64 n] h (vv (qN n)):=jn rfl ((Go.Mem.ZZ n h.lock).mono λv h1 e=>e.1)
theorem Qd(a:V)(h:za):vH Tryz.prog 125 [vv a] h (.bool (Q2 a)):=Go.Mem.Qd a h
theorem Im(b n:Int)(h:za):vH Tryz.prog 87 [.int .i64 b,.int .i64 n] h (vv (oK b n)):=by
 apply jn rfl;apply HQ;unfold NB oK;by_cases h1:b<1
 ·simp only[EE,↓nw,Value.cells,zf,aac,Nat.reduceAdd,vi,yg,zq,zM,vT,y9,h1];rfl
 ·simp only[EE,↓nw,Value.cells,zf,aac,aat,Nat.reduceAdd,vi,yg,zq,zM,vT,AM,En,h1];rfl
theorem vk(a:V)(h:za):vH Tryz.prog 110 [vv a] h (.bool (isInt a)):=by
 apply jn rfl;apply Cz;unfold Ek isInt;by_cases h1:a.k=1
 ·simp only[EE,↓nw,Value.cells,aac,Nat.reduceAdd,yg,zw,zh,zq,wA,cV,h1];refine zi (by kernel_rfl) rfl (Qd ⟨1,a.n,a.b⟩ _) ?_;simp only[EE];have:a=⟨1,a.n,a.b⟩:=by rw[<- h1]
  rw[<- this];simp[XG,h1]
 ·simp only[EE,↓nw,Value.cells,zw,zh,wA,cV,h1];simp[XG]
theorem uK(a:V)(h:za):vH Tryz.prog 112 [vv a] h (.bool (uN a)):=by
 apply jn rfl;apply CA;unfold El uN;by_cases h1:a.k=2
 ·simp only[EE,↓nw,Value.cells,aac,Nat.reduceAdd,yg,zw,zh,zq,wA,cW,h1];refine zi (by kernel_rfl) rfl (Qd ⟨2,a.n,a.b⟩ _) ?_;simp only[EE];have:a=⟨2,a.n,a.b⟩:=by rw[<- h1]
  rw[<- this];simp[XG,h1]
 ·simp only[EE,↓nw,Value.cells,zw,zh,wA,cW,h1];simp[XG]
theorem Qs(b:Bool)(h:za):vH Tryz.prog 127 [.bool b] h (vv (Wv b)):=by
 apply jn rfl;apply CN;unfold Em Wv;cases b with
 |true=>
  simp only[EE,↓nw,Value.cells,vT,oA];refine zi (by kernel_rfl) rfl (ZZ 1 _) ?_;simp only[EE,zf,aac,Nat.reduceAdd,vi,yg,zq,zM];rfl
 |false=>
  simp only[EE,↓nw,Value.cells,vT,oB];refine zi (by kernel_rfl) rfl (ZZ 0 _) ?_;simp only[EE,zf,aac,Nat.reduceAdd,vi,yg,zq,zM];rfl
theorem lA(op a b:Int)(h:za):vH Tryz.prog 111 [.int .i64 op,.int .i64 a,.int .i64 b] h (qh (Zn op a b)):=by
 apply jn rfl;apply FH;unfold HM;by_cases o11:op=11
 ·subst o11;simp only[EE,↓nw,Value.cells,↓BK,vT,nP,xO];refine zi (by kernel_rfl) rfl (ZZ (Yo (a+b)) _) ?_;simp only[EE,zf,aac,Nat.reduceAdd,vi,yg,zq,zM];rfl
 by_cases o12:op=12
 ·subst o12;simp only[EE,↓nw,Value.cells,↓BK,Int.reduceEq,vT,nO,xZ,xO];refine zi (by kernel_rfl) rfl (ZZ (Yo (a-b)) _) ?_;simp only[EE,zf,aac,Nat.reduceAdd,vi,yg,zq,zM];rfl
 by_cases o13:op=13
 ·subst o13;simp only[EE,↓nw,Value.cells,↓BK,Int.reduceEq,vT,nN,wy,xZ,xO];refine zi (by kernel_rfl) rfl (ZZ (Yo (a*b)) _) ?_;simp only[EE,zf,aac,Nat.reduceAdd,vi,yg,zq,zM];rfl
 by_cases o14:op=14
 ·subst o14;by_cases b0:b=0
  ·simp only[EE,nth,↓nw,Value.cells,↓BK,zf,aac,Nat.reduceAdd,Int.reduceEq,vi,yg,zq,zM,vT,y9,QL,Y7,Y8,Y9,ZU,wE,wy,xZ,xO,wF,b0];simp[XG,qh,Zn,v0]
  by_cases am:a = -9223372036854775808
  ·by_cases b1:b = -1
   ·simp only[EE,nth,↓nw,Value.cells,↓BK,zf,aac,Nat.reduceAdd,Int.reduceEq,Int.reduceNeg,vi,yg,zq,zM,vT,y9,QL,Y7,Y8,Y9,ZU,wE,wy,xZ,xO,wF,am,b1];simp[XG,qh,Zn,v0]
   ·simp only[EE,nth,↓nw,Value.cells,↓BK,zf,Nat.reduceAdd,Int.reduceEq,Int.reduceNeg,vi,zM,vT,y9,hO,QM,Y7,Y8,Y9,ZU,wE,wy,xZ,xO,wF,b0,am,b1];refine zi (by kernel_rfl) rfl (ZZ (Yo (Int.tdiv (-9223372036854775808) b)) _) ?_;simp only[EE,zf,aac,Nat.reduceAdd,Int.reduceNeg,vi,yg,zq,zM];simp[XG,qh,Zn,b0,b1]
  ·simp only[EE,nth,↓nw,Value.cells,↓BK,zf,Nat.reduceAdd,Int.reduceEq,Int.reduceNeg,vi,zM,vT,y9,hO,QM,Y7,Y8,Y9,ZU,wE,wy,xZ,xO,wF,b0,am];refine zi (by kernel_rfl) rfl (ZZ (Yo (a.tdiv b)) _) ?_;simp only[EE,zf,aac,Nat.reduceAdd,vi,yg,zq,zM];simp[XG,qh,Zn,b0,am]
 by_cases o15:op=15
 ·subst o15;by_cases b0:b=0
  ·simp only[EE,nth,↓nw,Value.cells,↓BK,zf,aac,Nat.reduceAdd,Int.reduceEq,vi,yg,zq,zM,vT,y9,QL,Y7,Y8,Y9,ZU,wE,wy,xZ,xO,wF,b0];simp[XG,qh,Zn,v0]
  by_cases am:a = -9223372036854775808
  ·by_cases b1:b = -1
   ·simp only[EE,nth,↓nw,Value.cells,↓BK,zf,aac,Nat.reduceAdd,Int.reduceEq,Int.reduceNeg,vi,yg,zq,zM,vT,y9,QL,Y7,Y8,Y9,ZU,wE,wy,xZ,xO,wF,am,b1];simp[XG,qh,Zn,v0]
   ·simp only[EE,nth,↓nw,Value.cells,↓BK,zf,Nat.reduceAdd,Int.reduceEq,Int.reduceNeg,vi,zM,vT,y9,hQ,QM,Y7,Y8,Y9,ZU,wE,wy,xZ,xO,wF,b0,am,b1];refine zi (by kernel_rfl) rfl (ZZ ((Int.tmod (-9223372036854775808) b)) _) ?_;simp only[EE,zf,aac,Nat.reduceAdd,Int.reduceNeg,vi,yg,zq,zM];simp[XG,qh,Zn,b0,b1]
  ·simp only[EE,nth,↓nw,Value.cells,↓BK,zf,Nat.reduceAdd,Int.reduceEq,Int.reduceNeg,vi,zM,vT,y9,hQ,QM,Y7,Y8,Y9,ZU,wE,wy,xZ,xO,wF,b0,am];refine zi (by kernel_rfl) rfl (ZZ ((a.tmod b)) _) ?_;simp only[EE,zf,aac,Nat.reduceAdd,vi,yg,zq,zM];simp[XG,qh,Zn,b0,am]
 by_cases o16:op=16
 ·subst o16;simp only[EE,nth,↓nw,Value.cells,↓BK,zf,Nat.reduceAdd,Int.reduceEq,vi,zM,vT,y9,nM,uB,wE,wy,xZ,xO,wF];refine zi (by kernel_rfl) rfl (ZZ (Wx (· &&& ·) a b) _) ?_;simp only[EE,zf,aac,Nat.reduceAdd,vi,yg,zq,zM];rfl
 by_cases o17:op=17
 ·subst o17;simp only[EE,nth,↓nw,Value.cells,↓BK,zf,Nat.reduceAdd,Int.reduceEq,vi,zM,vT,y9,nL,uW,uB,wE,wy,xZ,xO,wF];refine zi (by kernel_rfl) rfl (ZZ (Wx (· ||| ·) a b) _) ?_;simp only[EE,zf,aac,Nat.reduceAdd,vi,yg,zq,zM];rfl
 by_cases o18:op=18
 ·subst o18;simp only[EE,nth,↓nw,Value.cells,↓BK,zf,Nat.reduceAdd,Int.reduceEq,vi,zM,vT,y9,nK,u9,uW,uB,wE,wy,xZ,xO,wF];refine zi (by kernel_rfl) rfl (ZZ (Wx (· ^^^ ·) a b) _) ?_;simp only[EE,zf,aac,Nat.reduceAdd,vi,yg,zq,zM];rfl
 by_cases o19:op=19
 ·subst o19;by_cases b0:b<0
  ·simp only[EE,nth,↓nw,Value.cells,↓BK,zf,aac,Nat.reduceAdd,Int.reduceEq,vi,yg,zq,zM,vT,y9,QN,Xr,Xt,qB,u9,uW,uB,wE,wy,xZ,xO,wF,b0];simp[XG,qh,Zn,v0,b0]
  by_cases b1:63<b
  ·simp only[EE,nth,↓nw,Value.cells,↓BK,zf,aac,Nat.reduceAdd,Int.reduceEq,vi,yg,zq,zM,vT,y9,QN,Xr,Xt,qB,u9,uW,uB,wE,wy,xZ,xO,wF,b0,b1];simp[XG,qh,Zn,v0,b1]
  have b2:0<=b:=by omega
  have b3:min b.toNat 64=b.toNat:=by omega
  simp only[EE,nth,↓nw,Value.cells,↓BK,zf,Nat.reduceAdd,Int.reduceEq,vi,zM,vT,y9,tZ,cT,Xr,Xt,qB,u9,uW,uB,wE,wy,xZ,xO,wF,b0,b1,b2,IntKind.bits,b3];refine zi (by kernel_rfl) rfl (ZZ (Yo (a*2^b.toNat)) _) ?_;simp only[EE,zf,aac,Nat.reduceAdd,vi,yg,zq,zM];simp[XG,qh,Zn,b0,b1]
 by_cases o20:op=20
 ·subst o20;by_cases b0:b<0
  ·simp only[EE,nth,↓nw,Value.cells,↓BK,zf,aac,Nat.reduceAdd,Int.reduceEq,vi,yg,zq,zM,vT,y9,QN,Xr,Xt,qB,u9,uW,uB,wE,wy,xZ,xO,wF,b0];simp[XG,qh,Zn,v0,b0]
  by_cases b1:63<b
  ·simp only[EE,nth,↓nw,Value.cells,↓BK,zf,aac,Nat.reduceAdd,Int.reduceEq,vi,yg,zq,zM,vT,y9,QN,Xr,Xt,qB,u9,uW,uB,wE,wy,xZ,xO,wF,b0,b1];simp[XG,qh,Zn,v0,b1]
  have b2:0<=b:=by omega
  have b3:min b.toNat 64=b.toNat:=by omega
  simp only[EE,nth,↓nw,Value.cells,↓BK,zf,Nat.reduceAdd,Int.reduceEq,vi,zM,vT,y9,nD,cT,Xr,Xt,qB,u9,uW,uB,wE,wy,xZ,xO,wF,b0,b1,b2,IntKind.bits,b3];refine zi (by kernel_rfl) rfl (ZZ (a.fdiv (2^b.toNat)) _) ?_;simp only[EE,zf,aac,Nat.reduceAdd,vi,yg,zq,zM];simp[XG,qh,Zn,b0,b1]
 by_cases o21:op=21
 ·subst o21;simp only[EE,nth,↓nw,Value.cells,↓BK,zf,Nat.reduceAdd,Int.reduceEq,vi,zM,vT,y9,nJ,YM,qB,u9,uW,uB,wE,wy,xZ,xO,wF];refine zi (by kernel_rfl) rfl (Qs (decide (a=b)) _) ?_;simp only[EE,zf,aac,Nat.reduceAdd,vi,yg,zq,zM];rfl
 by_cases o22:op=22
 ·subst o22;simp only[EE,nth,↓nw,Value.cells,↓BK,zf,Nat.reduceAdd,Int.reduceEq,vi,zM,vT,y9,nI,Xs,YM,qB,u9,uW,uB,wE,wy,xZ,xO,wF];refine zi (by kernel_rfl) rfl (Qs (!decide (a=b)) _) ?_;simp only[EE,zf,aac,Nat.reduceAdd,vi,yg,zq,zM];rfl
 by_cases o23:op=23
 ·subst o23;simp only[EE,nth,↓nw,Value.cells,↓BK,zf,Nat.reduceAdd,Int.reduceEq,vi,zM,vT,y9,nH,WU,Xs,YM,qB,u9,uW,uB,wE,wy,xZ,xO,wF];refine zi (by kernel_rfl) rfl (Qs (decide (a<b)) _) ?_;simp only[EE,zf,aac,Nat.reduceAdd,vi,yg,zq,zM];rfl
 by_cases o24:op=24
 ·subst o24;simp only[EE,nth,↓nw,Value.cells,↓BK,zf,Nat.reduceAdd,Int.reduceEq,vi,zM,vT,y9,nG,Ui,WU,Xs,YM,qB,u9,uW,uB,wE,wy,xZ,xO,wF];refine zi (by kernel_rfl) rfl (Qs (decide (a<=b)) _) ?_;simp only[EE,zf,aac,Nat.reduceAdd,vi,yg,zq,zM];rfl
 by_cases o25:op=25
 ·subst o25;simp only[EE,nth,↓nw,Value.cells,↓BK,zf,Nat.reduceAdd,Int.reduceEq,vi,zM,vT,y9,nF,KC,Ui,WU,Xs,YM,qB,u9,uW,uB,wE,wy,xZ,xO,wF];refine zi (by kernel_rfl) rfl (Qs (decide (b<a)) _) ?_;simp only[EE,zf,aac,Nat.reduceAdd,vi,yg,zq,zM];rfl
 by_cases o26:op=26
 ·subst o26;simp only[EE,nth,↓nw,Value.cells,↓BK,zf,Nat.reduceAdd,Int.reduceEq,vi,zM,vT,y9,nE,cU,KC,Ui,WU,Xs,YM,qB,u9,uW,uB,wE,wy,xZ,xO,wF];refine zi (by kernel_rfl) rfl (Qs (decide (b<=a)) _) ?_;simp only[EE,zf,aac,Nat.reduceAdd,vi,yg,zq,zM];rfl
 simp only[EE,nth,↓nw,Value.cells,↓BK,zf,aac,Nat.reduceAdd,vi,yg,zq,zM,vT,y9,cU,KC,Ui,WU,Xs,YM,qB,u9,uW,uB,wE,wy,xZ,xO,wF,o11,o12,o13,o14,o15,o16,o17,o18,o19,o20,o21,o22,o23,o24,o25,o26];simp[XG,qh,Zn,v0,o11,o12,o13,o14,o15,o16,o17,o18,o19,o20,o21,o22,o23,o24,o25,o26]
theorem DH(a:V):((a.k == (1:Int))&&((a.n == (0:Int))&&(a.b == (0:Int))))=decide (a=qN 0):=SX a (qN 0)
theorem jl(op:Int)(a b:V)(h:za):vH Tryz.prog 113 [.int .i64 op,vv a,vv b] h (qh (qJ op a b)):=by
 apply jn rfl;apply Ck;unfold Eh;simp only[EE,↓nw,Value.cells,↓BK,aac,Nat.reduceAdd,yg,zq,vT];refine zi (by kernel_rfl) rfl (uK a _) ?_
 have g4:(((h.lock.push (.cells [.int .i64 a.k,.int .i64 a.n,.int .i64 a.b] 64)).push (.cells [.int .i64 b.k,.int .i64 b.n,.int .i64 b.b] 64)).push (.cells [.int .i64 0,.int .i64 0,.int .i64 0] 64)).get h.next=some (.cells [.int .i64 a.k,.int .i64 a.n,.int .i64 a.b] 64):=by
  rw[zL (by show h.next<h.next+1+1;omega),zL (by show h.next<h.next+1;omega)];exact zO
 have g5:(((h.lock.push (.cells [.int .i64 a.k,.int .i64 a.n,.int .i64 a.b] 64)).push (.cells [.int .i64 b.k,.int .i64 b.n,.int .i64 b.b] 64)).push (.cells [.int .i64 0,.int .i64 0,.int .i64 0] 64)).get (h.next+1)=some (.cells [.int .i64 b.k,.int .i64 b.n,.int .i64 b.b] 64):=by
  rw[zL (by show h.next+1<h.next+1+1;omega)];exact zO
 have g6:(((h.lock.push (.cells [.int .i64 a.k,.int .i64 a.n,.int .i64 a.b] 64)).push (.cells [.int .i64 b.k,.int .i64 b.n,.int .i64 b.b] 64)).push (.cells [.int .i64 0,.int .i64 0,.int .i64 0] 64)).get (h.next+1+1)=some (.cells [.int .i64 0,.int .i64 0,.int .i64 0] 64):=zO;have r6:(((h.lock.push (.cells [.int .i64 a.k,.int .i64 a.n,.int .i64 a.b] 64)).push (.cells [.int .i64 b.k,.int .i64 b.n,.int .i64 b.b] 64)).push (.cells [.int .i64 0,.int .i64 0,.int .i64 0] 64)).ro<=h.next+1+1:=by show h.next<=h.next+1+1;omega
 generalize (((h.lock.push (.cells [.int .i64 a.k,.int .i64 a.n,.int .i64 a.b] 64)).push (.cells [.int .i64 b.k,.int .i64 b.n,.int .i64 b.b] 64)).push (.cells [.int .i64 0,.int .i64 0,.int .i64 0] 64))=H at g4 g5 g6 r6 ⊢
 have g2:∀v h',v=Value.tuple #[vv (Wv (decide (a=b) == decide (op=21))),.bool true]->((uN a&&uN b)||((uN a&&decide (b=qN 0))||(decide (a=qN 0)&&uN b)))=true->XG (qh (qJ op a b)) v h':=by
  intro v h' e1 e2;subst e1;unfold qJ;rw[aam e2];rfl
 have g1:∀h',((uN a&&uN b)||((uN a&&decide (b=qN 0))||(decide (a=qN 0)&&uN b)))=false->XG (qh (qJ op a b)) (.tuple #[vv v0,.bool false]) h':=by
  intro h' e2;unfold qJ;rw[aak (by rw[e2];decide)];rfl
 have yes:∀J,((uN a&&uN b)||((uN a&&decide (b=qN 0))||(decide (a=qN 0)&&uN b)))=true->cO (.pointer (some ⟨h.next,0,none⟩)) H (.pointer (some ⟨h.next+1,0,none⟩)) (.int .i64 op) (.pointer (some ⟨h.next+1+1,0,none⟩)) (XG (qh (qJ op a b))) J:=by
  intro J e;simp only[EE,aac,Nat.reduceAdd,yg,zq,Rs,U8,cO,g4,g5];rw[SX a b];refine zi (by kernel_rfl) rfl (Qs _ _) ?_;simp only[EE,zf,aac,Nat.reduceAdd,vi,yg,zq,zM,g6,r6];exact g2 _ _ rfl e
 have no:∀vs,((uN a&&uN b)||((uN a&&decide (b=qN 0))||(decide (a=qN 0)&&uN b)))=false->cQ (.pointer (some ⟨h.next+1+1,0,none⟩)) (XG (qh (qJ op a b))) vs H:=by
  intro vs e;simp only[EE,zf,aac,Nat.reduceAdd,vi,yg,zq,zM,y9,cQ,g6,r6];exact g1 _ e
 cases pa:uN a with
 |true=>
  simp only[EE,aac,Nat.reduceAdd,yg,zq,cP,g5];refine zi (by kernel_rfl) rfl (uK b _) ?_;cases pb:uN b with
  |true=>
   simp only[EE,nth,Kr];exact yes _ (by rw[pa,pb];rfl)
  |false=>
   simp only[EE,aac,Nat.reduceAdd,yg,zq,cN,Kr,g4];refine qM (by kernel_rfl) rfl (uK a _).dc ?_;rintro _ _ ⟨rfl,rfl⟩;rw[pa];simp only[EE,aac,Nat.reduceAdd,yg,zq,cM,g5];refine ka (by kernel_rfl) rfl (ZZ 0 _) ?_;simp only[EE,U8,qN];rw[DH b];cases eb:decide (b=qN 0) with
   |true=>
    simp only[EE,nth,Kq];exact yes _ (by rw[pa,pb,eb];rfl)
   |false=>
    simp only[EE,aac,Nat.reduceAdd,yg,zq,Kq,g4];refine ka (by kernel_rfl) rfl (ZZ 0 _) ?_;simp only[EE,U8,cL,qN];rw[DH a];cases ea:decide (a=qN 0) with
    |true=>
     simp only[EE,aac,Nat.reduceAdd,yg,zq,g5];refine qM (by kernel_rfl) rfl (uK b _).dc ?_;rintro _ _ ⟨rfl,rfl⟩;rw[pb];simp only[EE,nth];exact no _ (by rw[pa,pb,eb,ea];rfl)
    |false=>
     simp only[EE,nth];exact no _ (by rw[pa,pb,eb,ea];rfl)
 |false=>
  simp only[EE,aac,Nat.reduceAdd,yg,zq,cN,Kr,cP,g4];refine qM (by kernel_rfl) rfl (uK a _).dc ?_;rintro _ _ ⟨rfl,rfl⟩;rw[pa];simp only[EE,aac,Nat.reduceAdd,yg,zq,Kq,cM,g4];refine ka (by kernel_rfl) rfl (ZZ 0 _) ?_;simp only[EE,U8,cL,qN];rw[DH a];cases ea:decide (a=qN 0) with
  |true=>
   simp only[EE,aac,Nat.reduceAdd,yg,zq,g5];refine qM (by kernel_rfl) rfl (uK b _).dc ?_;rintro _ _ ⟨rfl,rfl⟩;cases pb:uN b with
   |true=>
    simp only[EE,nth];exact yes _ (by rw[pa,pb,ea];cases decide (b=qN 0) <;> rfl)
   |false=>
    simp only[EE,nth];exact no _ (by rw[pa,pb,ea];rfl)
  |false=>
   simp only[EE,nth];exact no _ (by rw[pa,ea];rfl)
theorem SG(a:Int):dH Tryz.prog .xor (.int .i64 a)=some (.int .i64 (notM a)):=rfl
theorem TN(op:Int)(a:V)(h:za):vH Tryz.prog 109 [.int .i64 op,vv a] h (qh (fA op a)):=by
 apply jn rfl;apply Me;unfold PU;simp only[EE,↓nw,Value.cells,aac,Nat.reduceAdd,yg,zq,vT];refine zi (by kernel_rfl) rfl (vk a _) ?_
 have g3:((h.lock.push (.cells [.int .i64 a.k,.int .i64 a.n,.int .i64 a.b] 64)).push (.cells [.int .i64 0,.int .i64 0,.int .i64 0] 64)).get h.next=some (.cells [.int .i64 a.k,.int .i64 a.n,.int .i64 a.b] 64):=by
  rw[zL (by show h.next<h.next+1;omega)];exact zO
 have g4:((h.lock.push (.cells [.int .i64 a.k,.int .i64 a.n,.int .i64 a.b] 64)).push (.cells [.int .i64 0,.int .i64 0,.int .i64 0] 64)).get (h.next+1)=some (.cells [.int .i64 0,.int .i64 0,.int .i64 0] 64):=zO;have r4:((h.lock.push (.cells [.int .i64 a.k,.int .i64 a.n,.int .i64 a.b] 64)).push (.cells [.int .i64 0,.int .i64 0,.int .i64 0] 64)).ro<=h.next+1:=by show h.next<=h.next+1;omega
 generalize ((h.lock.push (.cells [.int .i64 a.k,.int .i64 a.n,.int .i64 a.b] 64)).push (.cells [.int .i64 0,.int .i64 0,.int .i64 0] 64))=H at g3 g4 r4 ⊢;cases hi:isInt a with
 |false=>
  simp only[EE,zf,aac,Nat.reduceAdd,vi,yg,zq,zM,y9,Hv,g4,r4];simp[XG,qh,fA,hi,v0]
 |true=>
  simp only[EE,↓BK];by_cases o1:op=1
  ·subst o1;simp only[EE,zw,yR,wx,Hz,cK,g3];refine zi (by kernel_rfl) rfl (ZZ (Yo (0-a.n)) _) ?_;simp only[EE,zf,aac,Nat.reduceAdd,vi,yg,zq,zM,g4,r4];simp[XG,qh,fA,hi,Yo]
  by_cases o2:op=2
  ·subst o2;simp only[EE,Int.reduceEq,zw,yR,wx,Hy,gu,cK,g3,SG];refine zi (by kernel_rfl) rfl (ZZ (notM a.n) _) ?_;simp only[EE,zf,aac,Nat.reduceAdd,vi,yg,zq,zM,g4,r4];simp[XG,qh,fA,hi]
  by_cases o3:op=3
  ·subst o3;simp only[EE,Int.reduceEq,zw,yR,X9,IF,wx,Hx,pU,gu,cK,g3];refine zi (by kernel_rfl) rfl (ZZ (Yo (IntKind.wrap .i8 a.n)) _) ?_;simp only[EE,zf,aac,Nat.reduceAdd,vi,yg,zq,zM,g4,r4];simp[XG,qh,fA,hi,Yo]
  by_cases o4:op=4
  ·subst o4;simp only[EE,Int.reduceEq,zw,yR,Xc,fM,wx,Hw,Cj,pU,gu,cK,g3];refine zi (by kernel_rfl) rfl (ZZ (Yo (IntKind.wrap .i32 a.n)) _) ?_;simp only[EE,zf,aac,Nat.reduceAdd,vi,yg,zq,zM,g4,r4];simp[XG,qh,fA,hi,Yo]
  simp only[EE,zf,aac,Nat.reduceAdd,vi,yg,zq,zM,y9,Cj,pU,gu,cK,Eg,g4,r4,o1,o2,o3,o4];simp[XG,qh,fA,hi,v0,o1,o2,o3,o4]
theorem xt(o:Option V):qh o=.tuple #[.agg #[.int .i64 (o.getD v0).k,.int .i64 (o.getD v0).n,.int .i64 (o.getD v0).b],.bool o.isSome]:=rfl
theorem kinds(a:V):(isInt a=true/\uN a=false)\/(isInt a=false/\uN a=true)\/(isInt a=false/\uN a=false):=by
 unfold isInt uN;by_cases h1:a.k=1
 ·have h2:¬a.k=2:=by omega
  cases Q2 a <;> simp[h1]
 ·by_cases h2:a.k=2
  ·cases Q2 a <;> simp[h2]
  ·simp[h1,h2]
theorem Iw(op:Int)(a b:V)(h:za):vH Tryz.prog 91 [.int .i64 op,vv a,vv b] h (qh (yw op a b)):=by
 apply jn rfl;apply Hq;unfold NA;simp only[EE,↓nw,Value.cells,↓BK,aac,Nat.reduceAdd,yg,zq,vT,td];refine zi (by kernel_rfl) rfl (vk a _) ?_
 have g4:(((h.lock.push (.cells [.int .i64 a.k,.int .i64 a.n,.int .i64 a.b] 64)).push (.cells [.int .i64 b.k,.int .i64 b.n,.int .i64 b.b] 64)).push (.cells [.int .i64 0,.int .i64 0,.int .i64 0] 64)).get h.next=some (.cells [.int .i64 a.k,.int .i64 a.n,.int .i64 a.b] 64):=by
  rw[zL (by show h.next<h.next+1+1;omega),zL (by show h.next<h.next+1;omega)];exact zO
 have g5:(((h.lock.push (.cells [.int .i64 a.k,.int .i64 a.n,.int .i64 a.b] 64)).push (.cells [.int .i64 b.k,.int .i64 b.n,.int .i64 b.b] 64)).push (.cells [.int .i64 0,.int .i64 0,.int .i64 0] 64)).get (h.next+1)=some (.cells [.int .i64 b.k,.int .i64 b.n,.int .i64 b.b] 64):=by
  rw[zL (by show h.next+1<h.next+1+1;omega)];exact zO
 have g6:(((h.lock.push (.cells [.int .i64 a.k,.int .i64 a.n,.int .i64 a.b] 64)).push (.cells [.int .i64 b.k,.int .i64 b.n,.int .i64 b.b] 64)).push (.cells [.int .i64 0,.int .i64 0,.int .i64 0] 64)).get (h.next+1+1)=some (.cells [.int .i64 0,.int .i64 0,.int .i64 0] 64):=zO;have r6:(((h.lock.push (.cells [.int .i64 a.k,.int .i64 a.n,.int .i64 a.b] 64)).push (.cells [.int .i64 b.k,.int .i64 b.n,.int .i64 b.b] 64)).push (.cells [.int .i64 0,.int .i64 0,.int .i64 0] 64)).ro<=h.next+1+1:=by show h.next<=h.next+1+1;omega
 generalize (((h.lock.push (.cells [.int .i64 a.k,.int .i64 a.n,.int .i64 a.b] 64)).push (.cells [.int .i64 b.k,.int .i64 b.n,.int .i64 b.b] 64)).push (.cells [.int .i64 0,.int .i64 0,.int .i64 0] 64))=H at g4 g5 g6 r6 ⊢;have xa:(isInt a=true/\uN a=false)\/(isInt a=false/\uN a=true)\/(isInt a=false/\uN a=false):=kinds a;have xb:(isInt b=true/\uN b=false)\/(isInt b=false/\uN b=true)\/(isInt b=false/\uN b=false):=kinds b;by_cases o11:op=11
 ·subst o11;rcases xa with⟨ia,pa⟩|⟨ia,pa⟩|⟨ia,pa⟩ <;> rcases xb with⟨ib,pb⟩|⟨ib,pb⟩|⟨ib,pb⟩
  ·have e:yw 11 a b=Zn 11 a.n b.n:=by simp[yw,ia,ib]
   rw[e];simp only[EE,aac,Nat.reduceAdd,yg,zq,yh,g5,ia]
   repeat (first|(refine zi (by kernel_rfl) rfl (vk b H) ?_;simp only[EE,zw,yR,wx,Ug,g4,g5,ia,ib]))
   refine zi (by kernel_rfl) rfl (lA _ a.n b.n H) ?_;simp only[xt,EE,zf,aac,Nat.reduceAdd,vi,yg,zq,zM,Kk,g6,r6];rfl
  ·simp only[EE,aac,Nat.reduceAdd,yg,zq,yh,g5,ia]
   repeat (first|(refine zi (by kernel_rfl) rfl (vk a H) ?_;simp only[EE,aac,Nat.reduceAdd,yg,zq,yE,g5,ia])|(refine zi (by kernel_rfl) rfl (vk b H) ?_;simp only[EE,aac,Nat.reduceAdd,yg,zq,yA,yB,g4,ia,ib])|(refine zi (by kernel_rfl) rfl (uK a H) ?_;simp only[EE,aac,Nat.reduceAdd,yg,zq,yF,yG,yz,g4,pa])|(refine zi (by kernel_rfl) rfl (uK b H) ?_;simp only[EE,zw,yR,zh,wx,uR,Ef,g4,g5,pb]))
   refine zi (by kernel_rfl) rfl (Im b.b (Yo (a.n+b.n)) H) ?_;simp only[EE,zf,aac,Nat.reduceAdd,vi,yg,zq,zM,g6,r6];simp[XG,qh,yw,ia,ib,pa,pb]
  ·simp only[EE,aac,Nat.reduceAdd,yg,zq,yh,g5,ia]
   repeat (first|(refine zi (by kernel_rfl) rfl (vk a H) ?_;simp only[EE,aac,Nat.reduceAdd,yg,zq,yE,g5,ia])|(refine zi (by kernel_rfl) rfl (vk b H) ?_;simp only[EE,aac,Nat.reduceAdd,yg,zq,yA,yB,g4,ia,ib])|(refine zi (by kernel_rfl) rfl (uK a H) ?_;simp only[EE,aac,Nat.reduceAdd,yg,zq,yF,yG,yz,g4,pa])|(refine zi (by kernel_rfl) rfl (uK b H) ?_;simp only[EE,zf,aac,Nat.reduceAdd,Int.reduceEq,vi,yg,zq,zM,y9,wj,wk,wm,xR,xS,yK,vR,g6,r6,pb]))
   simp[XG,qh,yw,ia,ib,pa,pb,v0]
  ·simp only[EE,aac,Nat.reduceAdd,yg,zq,yA,yB,yh,g4,ia]
   repeat (first|(refine zi (by kernel_rfl) rfl (vk b H) ?_;simp only[EE,zw,yR,zh,wx,uR,ta,g4,g5,ib])|(refine zi (by kernel_rfl) rfl (uK a H) ?_;simp only[EE,aac,Nat.reduceAdd,yg,zq,yz,g5,pa]))
   refine zi (by kernel_rfl) rfl (Im a.b (Yo (a.n+b.n)) H) ?_;simp only[EE,zf,aac,Nat.reduceAdd,vi,yg,zq,zM,g6,r6];simp[XG,qh,yw,ia,ib,pa]
  ·simp only[EE,aac,Nat.reduceAdd,yg,zq,yA,yB,yh,g4,ia]
   repeat (first|(refine zi (by kernel_rfl) rfl (vk a H) ?_;simp only[EE,zf,aac,Nat.reduceAdd,Int.reduceEq,vi,yg,zq,zM,y9,wj,wk,wm,xR,xS,yK,yE,vR,g6,r6,ia])|(refine zi (by kernel_rfl) rfl (vk b H) ?_;simp only[EE,aac,Nat.reduceAdd,yg,zq,yF,yG,g4,ib])|(refine zi (by kernel_rfl) rfl (uK a H) ?_;simp only[EE,aac,Nat.reduceAdd,yg,zq,yz,g5,pa]))
   simp[XG,qh,yw,ia,ib,pa,pb,v0]
  ·simp only[EE,aac,Nat.reduceAdd,yg,zq,yA,yB,yh,g4,ia]
   repeat (first|(refine zi (by kernel_rfl) rfl (vk a H) ?_;simp only[EE,zf,aac,Nat.reduceAdd,Int.reduceEq,vi,yg,zq,zM,y9,wj,wk,wm,xR,xS,yK,yE,vR,g6,r6,ia])|(refine zi (by kernel_rfl) rfl (vk b H) ?_;simp only[EE,aac,Nat.reduceAdd,yg,zq,yF,yG,g4,ib])|(refine zi (by kernel_rfl) rfl (uK a H) ?_;simp only[EE,aac,Nat.reduceAdd,yg,zq,yz,g5,pa]))
   simp[XG,qh,yw,ia,ib,pa,pb,v0]
  ·simp only[EE,aac,Nat.reduceAdd,yg,zq,yA,yB,yh,g4,ia]
   repeat (first|(refine zi (by kernel_rfl) rfl (vk a H) ?_;simp only[EE,zf,aac,Nat.reduceAdd,Int.reduceEq,vi,yg,zq,zM,y9,wj,wk,wm,xR,xS,yK,yE,vR,g6,r6,ia])|(refine zi (by kernel_rfl) rfl (uK a H) ?_;simp only[EE,aac,Nat.reduceAdd,yg,zq,yF,yG,yz,g4,pa]))
   simp[XG,qh,yw,ia,ib,pa,pb,v0]
  ·simp only[EE,aac,Nat.reduceAdd,yg,zq,yA,yB,yh,g4,ia]
   repeat (first|(refine zi (by kernel_rfl) rfl (vk a H) ?_;simp only[EE,zf,aac,Nat.reduceAdd,Int.reduceEq,vi,yg,zq,zM,y9,wj,wk,wm,xR,xS,yK,yE,vR,g6,r6,ia])|(refine zi (by kernel_rfl) rfl (uK a H) ?_;simp only[EE,aac,Nat.reduceAdd,yg,zq,yF,yG,yz,g4,pa]))
   simp[XG,qh,yw,ia,ib,pa,pb,v0]
  ·simp only[EE,aac,Nat.reduceAdd,yg,zq,yA,yB,yh,g4,ia]
   repeat (first|(refine zi (by kernel_rfl) rfl (vk a H) ?_;simp only[EE,zf,aac,Nat.reduceAdd,Int.reduceEq,vi,yg,zq,zM,y9,wj,wk,wm,xR,xS,yK,yE,vR,g6,r6,ia])|(refine zi (by kernel_rfl) rfl (uK a H) ?_;simp only[EE,aac,Nat.reduceAdd,yg,zq,yF,yG,yz,g4,pa]))
   simp[XG,qh,yw,ia,ib,pa,pb,v0]
 by_cases o12:op=12
 ·subst o12;rcases xa with⟨ia,pa⟩|⟨ia,pa⟩|⟨ia,pa⟩ <;> rcases xb with⟨ib,pb⟩|⟨ib,pb⟩|⟨ib,pb⟩
  ·have e:yw 12 a b=Zn 12 a.n b.n:=by simp[yw,ia,ib]
   rw[e];simp only[EE,aac,Nat.reduceAdd,yg,zq,yh,g5,ia]
   repeat (first|(refine zi (by kernel_rfl) rfl (vk b H) ?_;simp only[EE,zw,yR,wx,Ug,g4,g5,ia,ib]))
   refine zi (by kernel_rfl) rfl (lA _ a.n b.n H) ?_;simp only[xt,EE,zf,aac,Nat.reduceAdd,vi,yg,zq,zM,Kk,g6,r6];rfl
  ·simp only[EE,aac,Nat.reduceAdd,yg,zq,yh,g5,ia]
   repeat (first|(refine zi (by kernel_rfl) rfl (vk b H) ?_;simp only[EE,aac,Nat.reduceAdd,Int.reduceEq,yg,zq,xS,yK,yE,yF,yG,yz,yA,yB,g4,ia,ib])|(refine zi (by kernel_rfl) rfl (uK a H) ?_;simp only[EE,zf,aac,Nat.reduceAdd,Int.reduceEq,vi,yg,zq,zM,y9,wj,wk,wm,xR,vR,g6,r6,pa]))
   simp[XG,qh,yw,ia,ib,pa,pb,v0]
  ·simp only[EE,aac,Nat.reduceAdd,yg,zq,yh,g5,ia]
   repeat (first|(refine zi (by kernel_rfl) rfl (vk b H) ?_;simp only[EE,aac,Nat.reduceAdd,Int.reduceEq,yg,zq,xS,yK,yE,yF,yG,yz,yA,yB,g4,ia,ib])|(refine zi (by kernel_rfl) rfl (uK a H) ?_;simp only[EE,zf,aac,Nat.reduceAdd,Int.reduceEq,vi,yg,zq,zM,y9,wj,wk,wm,xR,vR,g6,r6,pa]))
   simp[XG,qh,yw,ia,ib,pa,pb,v0]
  ·simp only[EE,aac,Nat.reduceAdd,Int.reduceEq,yg,zq,xS,yK,yE,yF,yG,yz,yA,yB,yh,g4,ia]
   repeat (first|(refine zi (by kernel_rfl) rfl (vk b H) ?_;simp only[EE,zw,yR,zh,wx,uR,Ee,g4,g5,ib])|(refine zi (by kernel_rfl) rfl (uK a H) ?_;simp only[EE,aac,Nat.reduceAdd,yg,zq,xR,g5,pa]))
   refine zi (by kernel_rfl) rfl (Im a.b (Yo (a.n-b.n)) H) ?_;simp only[EE,zf,aac,Nat.reduceAdd,vi,yg,zq,zM,g6,r6];simp[XG,qh,yw,ia,ib,pa,pb]
  ·simp only[EE,aac,Nat.reduceAdd,Int.reduceEq,yg,zq,xS,yK,yE,yF,yG,yz,yA,yB,yh,g4,ia]
   repeat (first|(refine zi (by kernel_rfl) rfl (vk b H) ?_;simp only[EE,zf,aac,Nat.reduceAdd,Int.reduceEq,vi,yg,zq,zM,y9,wj,wk,wm,vR,g6,r6,ib])|(refine zi (by kernel_rfl) rfl (uK a H) ?_;simp only[EE,aac,Nat.reduceAdd,yg,zq,xR,g5,pa]))
   simp[XG,qh,yw,ia,ib,pa,pb,v0]
  ·simp only[EE,aac,Nat.reduceAdd,Int.reduceEq,yg,zq,xS,yK,yE,yF,yG,yz,yA,yB,yh,g4,ia]
   repeat (first|(refine zi (by kernel_rfl) rfl (vk b H) ?_;simp only[EE,zf,aac,Nat.reduceAdd,Int.reduceEq,vi,yg,zq,zM,y9,wj,wk,wm,vR,g6,r6,ib])|(refine zi (by kernel_rfl) rfl (uK a H) ?_;simp only[EE,aac,Nat.reduceAdd,yg,zq,xR,g5,pa]))
   simp[XG,qh,yw,ia,ib,pa,pb,v0]
  ·simp only[EE,aac,Nat.reduceAdd,Int.reduceEq,yg,zq,xS,yK,yE,yF,yG,yz,yA,yB,yh,g4,ia]
   repeat (first|(refine zi (by kernel_rfl) rfl (uK a H) ?_;simp only[EE,zf,aac,Nat.reduceAdd,Int.reduceEq,vi,yg,zq,zM,y9,wj,wk,wm,xR,vR,g6,r6,pa]))
   simp[XG,qh,yw,ia,ib,pa,pb,v0]
  ·simp only[EE,aac,Nat.reduceAdd,Int.reduceEq,yg,zq,xS,yK,yE,yF,yG,yz,yA,yB,yh,g4,ia]
   repeat (first|(refine zi (by kernel_rfl) rfl (uK a H) ?_;simp only[EE,zf,aac,Nat.reduceAdd,Int.reduceEq,vi,yg,zq,zM,y9,wj,wk,wm,xR,vR,g6,r6,pa]))
   simp[XG,qh,yw,ia,ib,pa,pb,v0]
  ·simp only[EE,aac,Nat.reduceAdd,Int.reduceEq,yg,zq,xS,yK,yE,yF,yG,yz,yA,yB,yh,g4,ia]
   repeat (first|(refine zi (by kernel_rfl) rfl (uK a H) ?_;simp only[EE,zf,aac,Nat.reduceAdd,Int.reduceEq,vi,yg,zq,zM,y9,wj,wk,wm,xR,vR,g6,r6,pa]))
   simp[XG,qh,yw,ia,ib,pa,pb,v0]
 by_cases o21:op=21
 ·subst o21;rcases xa with⟨ia,pa⟩|⟨ia,pa⟩|⟨ia,pa⟩ <;> rcases xb with⟨ib,pb⟩|⟨ib,pb⟩|⟨ib,pb⟩
  ·have e:yw 21 a b=Zn 21 a.n b.n:=by simp[yw,ia,ib]
   rw[e];simp only[EE,aac,Nat.reduceAdd,yg,zq,yh,g5,ia]
   repeat (first|(refine zi (by kernel_rfl) rfl (vk b H) ?_;simp only[EE,zw,yR,wx,Ug,g4,g5,ia,ib]))
   refine zi (by kernel_rfl) rfl (lA _ a.n b.n H) ?_;simp only[xt,EE,zf,aac,Nat.reduceAdd,vi,yg,zq,zM,Kk,g6,r6];rfl
  ·have e:yw 21 a b=qJ 21 a b:=by simp[yw,ia,ib,pa,pb]
   rw[e];simp only[EE,aac,Nat.reduceAdd,yg,zq,yh,g5,ia]
   repeat (first|(refine zi (by kernel_rfl) rfl (vk b H) ?_;simp only[EE,aac,Nat.reduceAdd,Int.reduceEq,yg,zq,wj,wk,wm,xR,xS,yK,yE,yF,yG,yz,yA,yB,g4,g5,ia,ib]))
   refine zi (by kernel_rfl) rfl (jl _ a b H) ?_;simp only[xt,EE,zf,aac,Nat.reduceAdd,vi,yg,zq,zM,kx,g6,r6];rfl
  ·have e:yw 21 a b=qJ 21 a b:=by simp[yw,ia,ib,pa,pb]
   rw[e];simp only[EE,aac,Nat.reduceAdd,yg,zq,yh,g5,ia]
   repeat (first|(refine zi (by kernel_rfl) rfl (vk b H) ?_;simp only[EE,aac,Nat.reduceAdd,Int.reduceEq,yg,zq,wj,wk,wm,xR,xS,yK,yE,yF,yG,yz,yA,yB,g4,g5,ia,ib]))
   refine zi (by kernel_rfl) rfl (jl _ a b H) ?_;simp only[xt,EE,zf,aac,Nat.reduceAdd,vi,yg,zq,zM,kx,g6,r6];rfl
  ·have e:yw 21 a b=qJ 21 a b:=by simp[yw,ia,ib,pa,pb]
   rw[e];simp only[EE,aac,Nat.reduceAdd,Int.reduceEq,yg,zq,wj,wk,wm,xR,xS,yK,yE,yF,yG,yz,yA,yB,yh,g4,g5,ia]
   skip
   refine zi (by kernel_rfl) rfl (jl _ a b H) ?_;simp only[xt,EE,zf,aac,Nat.reduceAdd,vi,yg,zq,zM,kx,g6,r6];rfl
  ·have e:yw 21 a b=qJ 21 a b:=by simp[yw,ia,ib,pa,pb]
   rw[e];simp only[EE,aac,Nat.reduceAdd,Int.reduceEq,yg,zq,wj,wk,wm,xR,xS,yK,yE,yF,yG,yz,yA,yB,yh,g4,g5,ia]
   skip
   refine zi (by kernel_rfl) rfl (jl _ a b H) ?_;simp only[xt,EE,zf,aac,Nat.reduceAdd,vi,yg,zq,zM,kx,g6,r6];rfl
  ·have e:yw 21 a b=qJ 21 a b:=by simp[yw,ia,ib,pa,pb]
   rw[e];simp only[EE,aac,Nat.reduceAdd,Int.reduceEq,yg,zq,wj,wk,wm,xR,xS,yK,yE,yF,yG,yz,yA,yB,yh,g4,g5,ia]
   skip
   refine zi (by kernel_rfl) rfl (jl _ a b H) ?_;simp only[xt,EE,zf,aac,Nat.reduceAdd,vi,yg,zq,zM,kx,g6,r6];rfl
  ·have e:yw 21 a b=qJ 21 a b:=by simp[yw,ia,ib,pa,pb]
   rw[e];simp only[EE,aac,Nat.reduceAdd,Int.reduceEq,yg,zq,wj,wk,wm,xR,xS,yK,yE,yF,yG,yz,yA,yB,yh,g4,g5,ia]
   skip
   refine zi (by kernel_rfl) rfl (jl _ a b H) ?_;simp only[xt,EE,zf,aac,Nat.reduceAdd,vi,yg,zq,zM,kx,g6,r6];rfl
  ·have e:yw 21 a b=qJ 21 a b:=by simp[yw,ia,ib,pa,pb]
   rw[e];simp only[EE,aac,Nat.reduceAdd,Int.reduceEq,yg,zq,wj,wk,wm,xR,xS,yK,yE,yF,yG,yz,yA,yB,yh,g4,g5,ia]
   skip
   refine zi (by kernel_rfl) rfl (jl _ a b H) ?_;simp only[xt,EE,zf,aac,Nat.reduceAdd,vi,yg,zq,zM,kx,g6,r6];rfl
  ·have e:yw 21 a b=qJ 21 a b:=by simp[yw,ia,ib,pa,pb]
   rw[e];simp only[EE,aac,Nat.reduceAdd,Int.reduceEq,yg,zq,wj,wk,wm,xR,xS,yK,yE,yF,yG,yz,yA,yB,yh,g4,g5,ia]
   skip
   refine zi (by kernel_rfl) rfl (jl _ a b H) ?_;simp only[xt,EE,zf,aac,Nat.reduceAdd,vi,yg,zq,zM,kx,g6,r6];rfl
 by_cases o22:op=22
 ·subst o22;rcases xa with⟨ia,pa⟩|⟨ia,pa⟩|⟨ia,pa⟩ <;> rcases xb with⟨ib,pb⟩|⟨ib,pb⟩|⟨ib,pb⟩
  ·have e:yw 22 a b=Zn 22 a.n b.n:=by simp[yw,ia,ib]
   rw[e];simp only[EE,aac,Nat.reduceAdd,yg,zq,yh,g5,ia]
   repeat (first|(refine zi (by kernel_rfl) rfl (vk b H) ?_;simp only[EE,zw,yR,wx,Ug,g4,g5,ia,ib]))
   refine zi (by kernel_rfl) rfl (lA _ a.n b.n H) ?_;simp only[xt,EE,zf,aac,Nat.reduceAdd,vi,yg,zq,zM,Kk,g6,r6];rfl
  ·have e:yw 22 a b=qJ 22 a b:=by simp[yw,ia,ib,pa,pb]
   rw[e];simp only[EE,aac,Nat.reduceAdd,yg,zq,yh,g5,ia]
   repeat (first|(refine zi (by kernel_rfl) rfl (vk b H) ?_;simp only[EE,aac,Nat.reduceAdd,Int.reduceEq,yg,zq,wj,wk,wm,xR,xS,yK,yE,yF,yG,yz,yA,yB,g4,g5,ia,ib]))
   refine zi (by kernel_rfl) rfl (jl _ a b H) ?_;simp only[xt,EE,zf,aac,Nat.reduceAdd,vi,yg,zq,zM,kx,g6,r6];rfl
  ·have e:yw 22 a b=qJ 22 a b:=by simp[yw,ia,ib,pa,pb]
   rw[e];simp only[EE,aac,Nat.reduceAdd,yg,zq,yh,g5,ia]
   repeat (first|(refine zi (by kernel_rfl) rfl (vk b H) ?_;simp only[EE,aac,Nat.reduceAdd,Int.reduceEq,yg,zq,wj,wk,wm,xR,xS,yK,yE,yF,yG,yz,yA,yB,g4,g5,ia,ib]))
   refine zi (by kernel_rfl) rfl (jl _ a b H) ?_;simp only[xt,EE,zf,aac,Nat.reduceAdd,vi,yg,zq,zM,kx,g6,r6];rfl
  ·have e:yw 22 a b=qJ 22 a b:=by simp[yw,ia,ib,pa,pb]
   rw[e];simp only[EE,aac,Nat.reduceAdd,Int.reduceEq,yg,zq,wj,wk,wm,xR,xS,yK,yE,yF,yG,yz,yA,yB,yh,g4,g5,ia]
   skip
   refine zi (by kernel_rfl) rfl (jl _ a b H) ?_;simp only[xt,EE,zf,aac,Nat.reduceAdd,vi,yg,zq,zM,kx,g6,r6];rfl
  ·have e:yw 22 a b=qJ 22 a b:=by simp[yw,ia,ib,pa,pb]
   rw[e];simp only[EE,aac,Nat.reduceAdd,Int.reduceEq,yg,zq,wj,wk,wm,xR,xS,yK,yE,yF,yG,yz,yA,yB,yh,g4,g5,ia]
   skip
   refine zi (by kernel_rfl) rfl (jl _ a b H) ?_;simp only[xt,EE,zf,aac,Nat.reduceAdd,vi,yg,zq,zM,kx,g6,r6];rfl
  ·have e:yw 22 a b=qJ 22 a b:=by simp[yw,ia,ib,pa,pb]
   rw[e];simp only[EE,aac,Nat.reduceAdd,Int.reduceEq,yg,zq,wj,wk,wm,xR,xS,yK,yE,yF,yG,yz,yA,yB,yh,g4,g5,ia]
   skip
   refine zi (by kernel_rfl) rfl (jl _ a b H) ?_;simp only[xt,EE,zf,aac,Nat.reduceAdd,vi,yg,zq,zM,kx,g6,r6];rfl
  ·have e:yw 22 a b=qJ 22 a b:=by simp[yw,ia,ib,pa,pb]
   rw[e];simp only[EE,aac,Nat.reduceAdd,Int.reduceEq,yg,zq,wj,wk,wm,xR,xS,yK,yE,yF,yG,yz,yA,yB,yh,g4,g5,ia]
   skip
   refine zi (by kernel_rfl) rfl (jl _ a b H) ?_;simp only[xt,EE,zf,aac,Nat.reduceAdd,vi,yg,zq,zM,kx,g6,r6];rfl
  ·have e:yw 22 a b=qJ 22 a b:=by simp[yw,ia,ib,pa,pb]
   rw[e];simp only[EE,aac,Nat.reduceAdd,Int.reduceEq,yg,zq,wj,wk,wm,xR,xS,yK,yE,yF,yG,yz,yA,yB,yh,g4,g5,ia]
   skip
   refine zi (by kernel_rfl) rfl (jl _ a b H) ?_;simp only[xt,EE,zf,aac,Nat.reduceAdd,vi,yg,zq,zM,kx,g6,r6];rfl
  ·have e:yw 22 a b=qJ 22 a b:=by simp[yw,ia,ib,pa,pb]
   rw[e];simp only[EE,aac,Nat.reduceAdd,Int.reduceEq,yg,zq,wj,wk,wm,xR,xS,yK,yE,yF,yG,yz,yA,yB,yh,g4,g5,ia]
   skip
   refine zi (by kernel_rfl) rfl (jl _ a b H) ?_;simp only[xt,EE,zf,aac,Nat.reduceAdd,vi,yg,zq,zM,kx,g6,r6];rfl
 ·skip
  rcases xa with⟨ia,pa⟩|⟨ia,pa⟩|⟨ia,pa⟩ <;> rcases xb with⟨ib,pb⟩|⟨ib,pb⟩|⟨ib,pb⟩
  ·have e:yw op a b=Zn op a.n b.n:=by simp[yw,ia,ib]
   rw[e];simp only[EE,aac,Nat.reduceAdd,yg,zq,yh,g5,ia]
   repeat (first|(refine zi (by kernel_rfl) rfl (vk b H) ?_;simp only[EE,zw,yR,wx,Ug,g4,g5,ia,ib]))
   refine zi (by kernel_rfl) rfl (lA _ a.n b.n H) ?_;simp only[xt,EE,zf,aac,Nat.reduceAdd,vi,yg,zq,zM,Kk,g6,r6];rfl
  ·simp only[EE,aac,Nat.reduceAdd,yg,zq,yh,g5,ia]
   repeat (first|(refine zi (by kernel_rfl) rfl (vk b H) ?_;simp only[EE,zf,aac,Nat.reduceAdd,vi,yg,zq,zM,y9,wj,wk,wm,xR,xS,yK,yE,yF,yG,yz,yA,yB,vR,g6,r6,ia,ib,o11,o12,o21,o22]))
   simp[XG,qh,yw,ia,ib,pa,pb,v0,o11,o12,o21,o22]
  ·simp only[EE,aac,Nat.reduceAdd,yg,zq,yh,g5,ia]
   repeat (first|(refine zi (by kernel_rfl) rfl (vk b H) ?_;simp only[EE,zf,aac,Nat.reduceAdd,vi,yg,zq,zM,y9,wj,wk,wm,xR,xS,yK,yE,yF,yG,yz,yA,yB,vR,g6,r6,ia,ib,o11,o12,o21,o22]))
   simp[XG,qh,yw,ia,ib,pa,pb,v0,o11,o12,o21,o22]
  ·simp only[EE,zf,aac,Nat.reduceAdd,vi,yg,zq,zM,y9,wj,wk,wm,xR,xS,yK,yE,yF,yG,yz,yA,yB,yh,vR,g6,r6,ia,o11,o12,o21,o22]
   skip
   simp[XG,qh,yw,ia,ib,pa,pb,v0,o11,o12,o21,o22]
  ·simp only[EE,zf,aac,Nat.reduceAdd,vi,yg,zq,zM,y9,wj,wk,wm,xR,xS,yK,yE,yF,yG,yz,yA,yB,yh,vR,g6,r6,ia,o11,o12,o21,o22]
   skip
   simp[XG,qh,yw,ia,ib,pa,pb,v0,o11,o12,o21,o22]
  ·simp only[EE,zf,aac,Nat.reduceAdd,vi,yg,zq,zM,y9,wj,wk,wm,xR,xS,yK,yE,yF,yG,yz,yA,yB,yh,vR,g6,r6,ia,o11,o12,o21,o22]
   skip
   simp[XG,qh,yw,ia,ib,pa,pb,v0,o11,o12,o21,o22]
  ·simp only[EE,zf,aac,Nat.reduceAdd,vi,yg,zq,zM,y9,wj,wk,wm,xR,xS,yK,yE,yF,yG,yz,yA,yB,yh,vR,g6,r6,ia,o11,o12,o21,o22]
   skip
   simp[XG,qh,yw,ia,ib,pa,pb,v0,o11,o12,o21,o22]
  ·simp only[EE,zf,aac,Nat.reduceAdd,vi,yg,zq,zM,y9,wj,wk,wm,xR,xS,yK,yE,yF,yG,yz,yA,yB,yh,vR,g6,r6,ia,o11,o12,o21,o22]
   skip
   simp[XG,qh,yw,ia,ib,pa,pb,v0,o11,o12,o21,o22]
  ·simp only[EE,zf,aac,Nat.reduceAdd,vi,yg,zq,zM,y9,wj,wk,wm,xR,xS,yK,yE,yF,yG,yz,yA,yB,yh,vR,g6,r6,ia,o11,o12,o21,o22]
   skip
   simp[XG,qh,yw,ia,ib,pa,pb,v0,o11,o12,o21,o22]
open Go.Rtl (zD zT Old wu uJ VR)
def kg(ty:TypeId)(n:Nat)(sv:Value)(rows:List (List Value)):HP:=λm=>
 (sv=.slice none 0 0/\rows=[] /\ ∀x,m x=none) \/ ∃b c cs,sv=.slice (some ⟨b,0,none⟩) rows.length c/\c≠0/\rows.length*n<=cs.length/\cs.take (rows.length*n)=rows.flatten/\pt b (.cells cs ty) m
section
variable {lo:yQ}{h:za}{L:List HP}{ty:TypeId}{n:Nat}{sv:Value}{rows:List (List Value)}
theorem Z0(s:Sat lo h (kg ty n sv rows::L)):(sv=.slice none 0 0/\rows=[]/\Sat lo h L) \/ ∃b c cs,sv=.slice (some ⟨b,0,none⟩) rows.length c/\c≠0/\rows.length*n<=cs.length/\cs.take (rows.length*n)=rows.flatten/\Sat lo h (pt b (.cells cs ty)::L):=by
 obtain⟨a,ha,d,w,s⟩:=s;rcases ha with⟨e1,e2,e3⟩|⟨b,c,cs,e1,e2,e3,e4,e5⟩
 ·exact .inl ⟨e1,e2,by rw[yQ.sM e3]at s;exact s⟩
 ·exact .inr ⟨b,c,cs,e1,e2,e3,e4,a,e5,d,w,s⟩
theorem Xi(ty:TypeId)(n:Nat)(s:Sat lo h L):Sat lo h (kg ty n (.slice none 0 0) []::L):=⟨λ_=>none,.inl ⟨rfl,rfl,λ_=>rfl⟩,λ_ _ e=>(by cases e),λ_ _ e=>(by cases e),by rw[yQ.sM λ_=>rfl];exact s⟩
theorem ml{b c:Nat}{cs:List Value}(hc:c≠0)(hl:rows.length*n<=cs.length)(ht:cs.take (rows.length*n)=rows.flatten)(s:Sat lo h (pt b (.cells cs ty)::L)):Sat lo h (kg ty n (.slice (some ⟨b,0,none⟩) rows.length c) rows::L):=by
 obtain⟨a,ha,d,w,s⟩:=s;exact⟨a,.inr ⟨b,c,cs,rfl,hc,hl,ht,ha⟩,d,w,s⟩
theorem Wj{b c:Nat}{cs:List Value}(hc:c≠0)(hn:∀r,r∈rows->r.length=n)(he:cs=rows.flatten)(s:Sat lo h (pt b (.cells cs ty)::L)):Sat lo h (kg ty n (.slice (some ⟨b,0,none⟩) rows.length c) rows::L) :=
 ml hc (by rw[he,wu hn];exact aal _) (by rw[he,ab5 (by rw[wu hn];exact aal _)]) s
theorem eF(s:Sat lo h (kg ty n sv rows::L)):∃a c,sv=.slice a rows.length c:=by
 rcases Z0 s with⟨rfl,rfl,_⟩|⟨b,c,cs,rfl,_⟩ <;> exact⟨_,_,rfl⟩
theorem uL(s:Sat lo h (kg ty n sv rows::L)):yo sv=false:=by obtain⟨_,_,rfl⟩:=eF s;rfl
theorem j9(s:Sat lo h (kg ty n sv rows::L)):wi sv=true:=by obtain⟨_,_,rfl⟩:=eF s;rfl
theorem u6(s:Sat lo h (kg ty n sv rows::L))(hn:∀r,r∈rows->r.length=n):zT h sv n rows:=by
 rcases Z0 s with⟨e1,e2,_⟩|⟨b,c,cs,rfl,hc,hl,hf,s⟩
 ·exact .inl ⟨e1,e2⟩
 ·refine .inr ⟨b,0,c,rfl,λ_=>⟨cs,ty,s.lt,s.get,λi r hr=>?_⟩⟩
  have hi:i<rows.length:=by
   rcases aaA i rows.length with a|a
   ·exact a
   ·rw[aao a]at hr;cases hr
  obtain⟨f1,f2⟩:=uJ hn hr;have hm:=abA n (acm hi);rw[acx]at hm;refine⟨by omega,?_⟩;rw[<- f2,<- hf,aau,List.drop_take,List.take_take]
  congr 1
  omega
theorem V3(s:Sat lo h (kg ty n sv rows::L))(hn:∀r,r∈rows->r.length=n)(row:List Value)(hr:row.length=n)(h0n:0<n)(bz:Nat)(hb:(rows.length+1)*bz<=2^47) :
  ∃b' c' h',Yq h ty n bz 1 row sv=some (.slice (some ⟨b',0,none⟩) (rows.length+1) c',h')/\Sat lo h' (kg ty n (.slice (some ⟨b',0,none⟩) (rows.length+1) c') (rows++[row])::L):=by
 have hn2:∀r,r∈rows++[row]->r.length=n:=λr q=>by
  rcases aa2.1 q with q|q
  ·exact hn r q
  ·simp only[abn]at q;subst q;exact hr
 have hlen:(rows++[row]).length=rows.length+1:=by simp
 rcases Z0 s with⟨rfl,rfl,s'⟩|⟨b,c,cs,rfl,hc,hl,hf,s⟩
 ·refine⟨h.next,1,h.push (.cells row ty),?_,Wj (cs:=row) (rows:=[]++[row]) (c:=1) (by decide) hn2 (by simp) (s'.push (.cells row ty))⟩;simp only[Yq];rw[aak (by decide),aam (by simp at hb;omega)];rfl
 ·have hroom:roomFor c (rows.length+1) bz=true:=by
   unfold roomFor;cases Nat.beq c 2 <;> simp only[aax,aaK,ab2] <;> omega
  refine⟨h.next,uQ c (rows.length+1),(h.set b none).push (.cells (((cs.drop 0).take (rows.length*n))++row) ty),?_,?_⟩
  ·simp only[Yq,s.get];rw[aak (by decide),aam ⟨hc,trivial,s.wr,by omega,hroom,by simp⟩]
  ·have q:=Wj (rows:=rows++[row]) (c:=uQ c (rows.length+1)) (dJ _ _) hn2 (by rw[abt,hf,List.flatten_append];simp) ((s.forget none).push (.cells (((cs.drop 0).take (rows.length*n))++row) ty));rw[hlen]at q;exact q
theorem mq{cs:List Value}{i:Nat}{row:List Value}(hi:i<rows.length)(hn:∀r,r∈rows->r.length=n)(hr:row.length=n)(hl:rows.length*n<=cs.length)(ht:cs.take (rows.length*n)=rows.flatten) :
  (zf cs (i*n) row).take (rows.length*n)=(rows.set i row).flatten:=by
 have hn2:∀r,r∈rows.set i row->r.length=n:=λr q=>by
  rcases List.mem_or_eq_of_mem_set q with q|rfl
  ·exact hn r q
  ·exact hr
 have hm:i*n+n<=cs.length:=by
  have:=abA n (acm hi);rw[acx]at this;omega
 apply abe;intro j;by_cases hj:j<rows.length*n
 ·rw[aaX hj,YS _ _ _ _ (by rw[hr];exact hm),hr];have e0:=congrArg (λl=>l[j]?) ht;simp only[aaX hj]at e0
  have h0:0<n:=by rcases acg n with q|q; · subst q;simp at hj
                  ·exact q
  have hq:j/n<rows.length:=Nat.div_lt_of_lt_mul (by rw[Nat.mul_comm];exact hj);have hj3:j/n*n+j%n=j:=by rw[Nat.mul_comm];exact Nat.div_add_mod j n
  have hmn:j%n<n:=Nat.mod_lt _ h0
  have get:∀(m:List (List Value)),(∀r,r∈m->r.length=n)->∀x,m[j/n]? = some x->m.flatten[j]? = x[j%n]?:=λm hm x hx=>by
   have:=VR hm hx hmn
   rwa [hj3]at this
  rw[e0,get _ hn _ (aae hq)];by_cases e:i=j/n
  ·rw[get _ hn2 row (by rw[e,aaZ hq]),aam (by rw[e];omega),e]
   congr 1;omega
  ·rw[get _ hn2 _ (by rw[abo e,aae hq]),aak];rintro⟨a,b⟩;apply e;exact(Nat.div_eq_of_lt_le a (by rw[acx];exact b)).symm
 ·rw[aao (by simp;omega),aao (by rw[wu hn2];simp;omega)]
theorem Nf(s:Sat lo h (kg ty n sv rows::L))(hn:∀r,r∈rows->r.length=n){i:Nat}(hi:i<rows.length) :
  ∃b c cs,sv=.slice (some ⟨b,0,none⟩) rows.length c/\h.get b=some (.cells cs ty)/\h.ro<=b/\i*n+n<=cs.length /\ ∀row,row.length=n->Sat lo (h.set b (some (.cells (zf cs (i*n) row) ty))) (kg ty n sv (rows.set i row)::L):=by
 rcases Z0 s with⟨rfl,rfl,_⟩|⟨b,c,cs,rfl,hc,hl,hf,s⟩
 ·cases hi
 ·refine⟨b,c,cs,rfl,s.get,s.wr,?_,λrow hr=>?_⟩
  ·have:=abA n (acm hi);rw[acx]at this;omega
  ·have q:=ml (n:=n) (rows:=rows.set i row) (c:=c) hc (by rw[abf,ju];exact hl) (by rw[abf];exact mq hi hn hr hl hf) (s.set (.cells (zf cs (i*n) row) ty))
   rwa [abf]at q
theorem qL{α:Type}{f:α->List Value}{n:Nat}(hf:∀a,(f a).length=n)(l:List α):∀r,r∈l.map f->r.length=n:=by
 intro r hr;simp only[abE]at hr;obtain⟨y,_,rfl⟩:=hr;exact hf y
end
def Zc(e:Int×Int):List Value:=[.int .i64 e.1,.int .i64 e.2]
def qU(e:Int×Int×Int):List Value:=[.int .i64 e.1,.int .i64 e.2.1,.int .i64 e.2.2]
def xN(b:Nat):Value := .pointer (some ⟨b,0,none⟩)
def w9(z:Int):List Value:=[.int .i64 z]
section
variable {g h:za}{F G:Nat->Prop}
theorem MH{q:Nat}{gs:List (Option Nat)}{B:MB}(x:XR g q gs B F)(e:∀b o,F b->g.get b=some o->h.get b=some o/\G b):XR h q gs B G :=
 ⟨x.hl,(e q _ x.fq x.hq).2,(e q _ x.fq x.hq).1,λj p hj=>by
  obtain⟨a,cs,c1,c2,c3⟩:=x.hg j p hj;exact⟨(e p _ a c1).2,cs,(e p _ a c1).1,c2,c3⟩,x.hn,x.hd,x.ht⟩
theorem OB{p:Nat}{B:MB}(x:fV g p B F)(e:∀b o,F b->g.get b=some o->h.get b=some o/\G b):fV h p B G:=by
 obtain⟨pg,a,b,c⟩:=x;refine⟨pg,(e p _ b a).1,(e p _ b a).2,?_⟩;cases c with
 |empty a b=>exact .empty a b
 |full q c gs a x=>exact .full q c gs a (MH x e)
def O2(m:Nat)(M:MM)(h:za)(F:Nat->Prop):Prop:=pM h m M F
theorem Qh(m:Nat)(M:MM):Mv (O2 m M):=by
 rintro g h F G ⟨bs,ps,fs,x⟩ e ok;refine⟨bs,ps,λi b=>fs i b /\ ∃o,g.get b=some o,(e m _ x.fm x.hm).1,(e m _ x.fm x.hm).2,x.len,?_,λi q=>x.nm i q.1,λi p B hp hB=>?_,λi j b p q=>x.Hc i j b p.1 q.1,λi b q=>?_,ok⟩
 ·rcases x.hb with a|⟨bb,c,a1,a2,a3,a4,a5⟩
  ·exact .inl a
  ·exact .inr ⟨bb,c,a1,a2,(e bb _ a3 a4).2,(e bb _ a3 a4).1,λi q=>a5 i q.1⟩
 ·exact OB (x.YR i p B hp hB) λb o hb hg=>⟨(e b o (x.sub i b hb) hg).1,hb,o,hg⟩
 ·obtain⟨q1,o,q2⟩:=q;exact(e b o (x.sub i b q1) q2).2
end
def Xh(m:Nat)(M:MM):HP:=own (O2 m M)
section
variable {lo:yQ}{h:za}{L:List HP}{m:Nat}{M:MM}
theorem bN{F:Nat->Prop}{M':MM}{h1:za}(c:∀h1 F' X',Mv X'->h.next<=h1.next->h1.ro=h.ro->(∀b,¬F b->b<h.next->h1.get b=h.get b)->X' h1 F'->(∀b,F' b->F b\/h.next<=b)->(∀b,F' b->h1.ro<=b/\b<h1.next)->Sat lo h1 (own X'::L))(x:sX h m M' F h1):Sat lo h1 (Xh m M'::L):=by
 obtain⟨F',mh,Wa,sub⟩:=x;obtain⟨bs,ps,fs,mo⟩:=mh;exact c h1 F' (O2 m M') (Qh m M') Wa.next Wa.ro (λb hb hlt=>Wa.get b hb hlt) ⟨bs,ps,fs,mo⟩ sub mo.ok
theorem Er(s:Sat lo h (Xh m M::L))(n:Int):DC Tryz.prog 62 [xN m,.int .i64 n] h (λv h1=>v=.tuple #[.int .i64 (w7 M n).2.1,.int .i64 (w7 M n).2.2]/\Sat lo h1 (Xh m (w7 M n).1::L)):=by
 obtain⟨F,⟨bs,ps,fs,x⟩,_,c⟩:=Sat.Q9 (Qh m M) s;exact(H9 x n).mono λv h1 ⟨e,mu⟩=>⟨e,bN c mu⟩
theorem ON(s:Sat lo h (Xh m M::L))(hL:M.length<=100000){n:Int}(hn:n<9223372036854775808):DC Tryz.prog 114 [xN m,.int .i64 n] h (λv h1=>v=.bool (Ux M n).isSome/\Sat lo h1 (Xh m ((Ux M n).getD M)::L)):=by
 obtain⟨F,⟨bs,ps,fs,x⟩,_,c⟩:=Sat.Q9 (Qh m M) s;refine(MG x hL hn).mono λv h1 r=>?_;unfold D3 at r;cases e:Ux M n with
 |none=>rw[e]at r;obtain⟨r1,rfl⟩:=r;exact⟨r1,s⟩
 |some M'=>rw[e]at r;exact⟨r.1,bN c r.2⟩
theorem PD(s:Sat lo h (Xh m M::L))(hs:small M){n:Int}(hn:n<9223372036854775808):DC Tryz.prog 63 [xN m,.int .i64 n] h (λv h1=>v=.bool (UC M n).isSome/\Sat lo h1 (Xh m ((UC M n).getD M)::L)):=by
 obtain⟨F,⟨bs,ps,fs,x⟩,_,c⟩:=Sat.Q9 (Qh m M) s;refine(Nt x hs hn).mono λv h1 r=>?_;unfold Eo at r;cases e:UC M n with
 |none=>rw[e]at r;obtain⟨r1,rfl⟩:=r;exact⟨r1,s⟩
 |some M'=>rw[e]at r;exact⟨r.1,bN c r.2⟩
theorem OY(s:Sat lo h (Xh m M::L))(hs:small M){c:Int}{p:V}(hc:Xl c)(hp:p.ok):DC Tryz.prog 108 [xN m,.int .i64 c,vv p] h.lock (λv h1=>v=qh (Q5 M c p)/\Sat (.of h.lock) h1 []):=by
 obtain⟨F,⟨bs,ps,fs,x⟩,_,_⟩:=Sat.Q9 (Qh m M) s;have s0:Sat (.of h.lock) h.lock []:=Sat.self (aal _);have y:mA h.lock m bs ps fs M F:=⟨x.hm,x.fm,x.len,x.hb,x.nm,λi p B hp hB=>(x.YR i p B hp hB).zE λb hb=>rfl,x.Hc,x.sub,λb hb=>⟨trivial,(x.ok b hb).2⟩⟩;refine(MV y hs hc hp).mono λv h1 ⟨e,r⟩=>⟨?_,s0.La e.next e.ro λb hb=>e.get b (λq=>q) hb⟩;unfold mX at r;cases e:Q5 M c p with
 |none=>rw[e]at r;exact r
 |some a=>rw[e]at r;exact r
theorem Nj(s:Sat lo h (Xh m M::L))(hs:small M){c:Int}{p v:V}(hc:Xl c)(hp:p.ok):DC Tryz.prog 107 [xN m,.int .i64 c,vv p,vv v] h (λr h1=>r=.bool (Vx M c p v).isSome/\Sat lo h1 (Xh m ((Vx M c p v).getD M)::L)):=by
 obtain⟨F,⟨bs,ps,fs,x⟩,_,cl⟩:=Sat.Q9 (Qh m M) s;refine(LS x hs hc hp).mono λr h1 q=>?_;unfold Jk at q;cases e:Vx M c p v with
 |none=>rw[e]at q;exact⟨q.1,bN cl q.2⟩
 |some M'=>rw[e]at q;exact⟨q.1,bN cl q.2⟩
theorem O4(s:Sat lo h L):DC Tryz.prog 60 [] h (λv h1=>∃m,v=xN m/\Sat lo h1 (Xh m []::L)):=by
 refine(O7 h).mono λv h1 ⟨e,x,Wa⟩=>⟨h.next,e,?_⟩;obtain⟨bs,ps,fs,mo⟩:=x;exact s.M3 (Qh h.next []) Wa.next Wa.ro (λb hb=>Wa.get b (λq=>q) hb) ⟨bs,ps,fs,mo⟩ λb hb=>⟨by rw[hb];exact aal _,(mo.ok b hb).2⟩
end
def Rd(lo:yQ)(X:za->Prop):Prop := ∀h,fj lo h->X h
theorem Rd.mono{lo lo':yQ}{X:za->Prop}(x:Rd lo X)(l:lo.Le lo'):Rd lo' X:=λh b=>x h (b.mono l)
theorem Rd.at{lo:yQ}{X:za->Prop}{h:za}{L:List HP}(x:Rd lo X)(s:Sat lo h L):X h:=x h s.base
theorem Rd.of{lo:yQ}{X:za->Prop}{h0:za}(hl:lo.Has h0)(x:X h0)(m:∀h,Old h0 h->X h):Rd lo X:=λh b=>m h (by obtain⟨a,c,d⟩:=hl.old b;exact⟨a,c,d⟩)
section
variable {lo:yQ}{h:za}{L:List HP}{ty:TypeId}{n:Nat}{sv:Value}{rows:List (List Value)}
theorem LM(s:Sat lo h (kg ty n sv rows::L))(hn:∀r,r∈rows->r.length=n):∃lo1,lo.Le lo1/\Rd lo1 (zT · sv n rows)/\Sat lo1 h L /\ ∀h' L',Sat lo1 h' L'->Sat lo h' (kg ty n sv rows::L'):=by
 obtain⟨a,ha,d,w,s⟩:=s;refine⟨lo.un a,yQ.Jf d,λh1 b1=>?_,s,λh' L' s'=>⟨a,ha,d,w,s'⟩⟩;have:Sat lo h1 [kg ty n sv rows]:=⟨a,ha,d,w,b1⟩;exact u6 this hn
end
section
variable {lo:yQ}{h:za}{L:List HP}{ty:TypeId}{n:Nat}{sv:Value}{rows:List (List Value)}
theorem LL(s:Sat lo h (kg ty n sv rows::L))(hn:∀r,r∈rows->r.length=n)(rows2:List (List Value))(hn2:∀r,r∈rows2->r.length=n)(bz:Nat)(hb:(rows.length+rows2.length)*bz<=2^47)(hne:rows2≠[]) :
  ∃b' c' h',Yq h ty n bz rows2.length rows2.flatten sv=some (.slice (some ⟨b',0,none⟩) (rows.length+rows2.length) c',h')/\Sat lo h' (kg ty n (.slice (some ⟨b',0,none⟩) (rows.length+rows2.length) c') (rows++rows2)::L):=by
 have hn3:∀r,r∈rows++rows2->r.length=n:=λr q=>by
  rcases aa2.1 q with q|q
  ·exact hn r q
  ·exact hn2 r q
 have hlen:(rows++rows2).length=rows.length+rows2.length:=by simp
 have h0:¬rows2.length=0:=λe=>hne (abw.1 e);rcases Z0 s with⟨rfl,rfl,s'⟩|⟨b,c,cs,rfl,hc,hl,hf,s⟩
 ·refine⟨h.next,1,h.push (.cells rows2.flatten ty),?_,?_⟩
  ·simp only[Yq];rw[aak h0,aam (by simp at hb;omega)];simp
  ·have q:=Wj (cs:=rows2.flatten) (rows:=[]++rows2) (c:=1) (by decide) hn3 (by simp) (s'.push (.cells rows2.flatten ty));rw[hlen]at q;exact q
 ·have hroom:roomFor c (rows.length+rows2.length) bz=true:=by
   unfold roomFor;cases Nat.beq c 2 <;> simp only[aax,aaK,ab2] <;> omega
  refine⟨h.next,uQ c (rows.length+rows2.length),(h.set b none).push (.cells (((cs.drop 0).take (rows.length*n))++rows2.flatten) ty),?_,?_⟩
  ·simp only[Yq,s.get];rw[aak h0,aam ⟨hc,trivial,s.wr,by omega,hroom,by simp⟩]
  ·have q:=Wj (rows:=rows++rows2) (c:=uQ c (rows.length+rows2.length)) (dJ _ _) hn3 (by rw[abt,hf,List.flatten_append]) ((s.forget none).push (.cells (((cs.drop 0).take (rows.length*n))++rows2.flatten) ty));rw[hlen]at q;exact q
end
theorem LN{h:za}{sv:Value}{zs:List Int}(S:zD h sv zs):zT h sv 1 (zs.map w9):=by
 rcases S with⟨e,e2⟩|⟨b,off,cp,rfl,hc⟩
 ·exact .inl ⟨e,by rw[e2];rfl⟩
 ·refine .inr ⟨b,off,cp,by rw[aaD],λhz=>?_⟩;obtain⟨c,t,hb,hg,hat⟩:=hc (by simpa using hz);refine⟨c,t,hb,hg,λi r hr=>?_⟩;rw[aaw]at hr;cases hz:zs[i]? with
  |none=>rw[hz]at hr;cases hr
  |some z=>
   rw[hz]at hr;cases hr;have:=hat i z hz
   have hlt:off+i<c.length:=by
    rcases aaA (off+i) c.length with q|q
    ·exact q
    ·rw[aao q]at this;cases this
   refine⟨by omega,?_⟩;rw[abH,List.drop_eq_getElem_cons hlt];rw[aae hlt]at this;rw[acw this];rfl
section
variable {lo:yQ}{h:za}{L:List HP}{b mb wb fb:Nat}{world:List Int}{ev lk gl cl kv wn:Value}{fi:List Nat}{kept:Option (Int->Bool)}
theorem O8{used:Int}(s:Sat lo h [pt wb (.cells [wn,.int .i64 used] 151),kg 2 1 wn (world.map w9)])(h0:0<=used)(h1:used<4611686018427387904)(hl:world.length<4611686018427387904) :
  DC Tryz.prog 95 [xN wb] h (λv h'=>v=.int .i64 (Yl world used)/\Sat lo h' [pt wb (.cells [wn,.int .i64 (used+1)] 151),kg 2 1 wn (world.map w9)]):=by
 apply Fw;unfold Hr xN;have gw:=s.get;have hinc:IntKind.wrap .i64 (used+1)=used+1:=Go.Mem.Yo (by omega) (by omega);have hdec:IntKind.wrap .i64 (used+1-1)=used:=by rw[show used+1-1=used by omega];exact Go.Mem.Yo (by omega) (by omega)
 simp only[EE,zw,zh,WL,iV,gw,hinc];refine xQ s (by simp) rfl λh2 s2=>?_;have g2:=s2.get;have SR:=u6 (s2.p 1) (qL (f:=w9) (λ_=>rfl) world);have ws:=SR.Y0
 have hlen:∀h',zk Tryz.prog .len [26] 3 [wn] h'=some (.int .i64 world.length,h'):=λh'=>by
  rcases SR with⟨rfl,e⟩|⟨_,_,_,rfl,_⟩
  ·have:world=[]:=by simpa using e
   subst this;simp only[lE,aaz]
  ·simp only[lE,aaD]
 by_cases hc:(world.length:Int)<used+1
 ·have hc':used+1>(world.length:Int):=hc;simp only[EE,zf,zw,NC,zh,Ba,iV,g2,ws,hlen,hc];refine⟨?_,s2⟩;unfold Yl;rw[aak (by omega),aaR,aao (by omega)];rfl
 ·obtain⟨z,hz⟩:∃z,world[used.toNat]? = some z:=⟨_,aae (by omega)⟩;obtain⟨bb,o,cs,t,⟨off,cp,rfl,rfl⟩,hi,hb,hgt,hle,htk,hat⟩:=SR.spot (i:=used.toNat) (r:=w9 z) (by rw[aaw,hz];rfl) rfl;have hat0:cs[off+used.toNat*1]? = some (.int .i64 z):=hat 0 (by decide);rw[abH]at hat0;have hu:used<(world.length:Int):=by omega
  rw[aaD]at *
  simp only[EE,zf,aac,zw,yR,NC,zh,Ba,iV,I8,tE,g2,ws,hlen,hc,hdec,h0,hu,hgt,hat0,abH];refine⟨?_,s2⟩;unfold Yl;rw[aak (by omega),aaR,hz];rfl
end
theorem DQ{M:MM}{B:MB}(h:small M)(hb:B.size<2147483648):small (M++[B]):=λi C hC=>by
 rw[List.getElem?_append]at hC;split at hC
 ·exact h i C hC
 ·cases hq:i-M.length with
  |zero=>rw[hq]at hC;simp at hC;subst hC;exact hb
  |succ k=>rw[hq]at hC;simp at hC
def vb(v:V):Prop:=Xl v.b
theorem Ua:Xl 0:=⟨by decide,by decide⟩
theorem bZ:vb v0:=Ua
theorem Qz(n:Int):vb (qN n):=Ua
theorem BW{b n:Int}(h:Xl b):vb (oK b n):=by
 unfold oK;split
 ·exact Ua
 ·exact h
theorem BX(t:Bool):vb (Wv t):=by unfold Wv;split <;> exact Ua
theorem Pz{c:Prop}[Decidable c]{x y:Option V}{v:V}(hx:x=some v->vb v)(hy:y=some v->vb v):(if c then x else y)=some v->vb v:=by
 intro h;by_cases hc:c
 ·rw[aam hc]at h;exact hx h
 ·rw[aak hc]at h;exact hy h
theorem Nq{op a b:Int}{v:V}(h:Zn op a b=some v):vb v:=by
 revert h
 unfold Zn
 repeat' apply Pz
 all_goals intro h
 all_goals first
  |(cases h;done)
  |(have e:=acw h;rw[<- e];first|exact Qz _|exact BX _)
theorem Kg{op:Int}{a b v:V}(ha:vb a)(hb:vb b)(h:yw op a b=some v):vb v:=by
 unfold yw at h;split at h
 ·exact Nq h
 split at h
 ·simp only[aab]at h;subst h;exact BW ha
 split at h
 ·simp only[aab]at h;subst h;exact BW hb
 split at h
 ·simp only[aab]at h;subst h;exact BW ha
 split at h
 ·unfold qJ at h;split at h
  ·simp only[aab]at h;subst h;exact BX _
  ·cases h
 ·cases h
theorem N9{op:Int}{a v:V}(h:fA op a=some v):vb v:=by
 unfold fA at h
 repeat' (split at h)
 all_goals first
  |(cases h;done)
  |(simp only[aab]at h;subst h;exact Qz _)
theorem Py{l:List V}(h:∀v,v∈l->vb v)(r:Int):vb (Dm l r):=by
 unfold Dm;split
 ·exact bZ
 ·rw[aaR];cases e:l[r.toNat]? with
  |none=>exact bZ
  |some v=>exact h v (aaG e)
def JO(M:MM):Prop:=small M/\M.length<=100000 /\ ∀(i:Nat) B,M[i]? = some B->∀a,vb (B.byte a).p
theorem GH{M:MM}{c:Int}{p v:V}(h:JO M)(e:Q5 M c p=some v):vb v:=by
 unfold Q5 at e;split at e
 ·cases e
 ·rename_i i hi;simp only[aas]at e;obtain⟨B,hB,rfl⟩:=e;unfold bL;split
  ·exact Ua
  split
  ·exact h.2.2 i B hB _
  ·exact bZ
theorem lJ{M:MM}{i:Nat}{B:MB}(h:JO M)(hs:B.size<2147483648)(hp:∀a,vb (B.byte a).p):JO (M.set i B):=by
 refine⟨λj C hC=>?_,by rw[abf];exact h.2.1,λj C hC a=>?_⟩
 ·rw[acj]at hC;split at hC
  ·split at hC
   ·cases hC;exact hs
   ·cases hC
  ·exact h.1 j C hC
 ·rw[acj]at hC;split at hC
  ·split at hC
   ·cases hC;exact hp a
   ·cases hC
  ·exact h.2.2 j C hC a
theorem Dz{M M':MM}{c:Int}{p v:V}(h:JO M)(hv:vb v)(e:Vx M c p v=some M'):JO M':=by
 unfold Vx at e;split at e
 ·cases e
 split at e
 ·cases e
 ·rename_i i hi;simp only[aas]at e;obtain⟨B,hB,rfl⟩:=e;refine lJ h (h.1 i B hB) λa=>?_;show vb ((if _ then cellOf (norm v) _ else B.byte a).p);split
  ·unfold cellOf norm
   repeat' split
   all_goals first|exact hv|exact bZ
  ·exact h.2.2 i B hB a
theorem GG{M:MM}{n:Int}(h:JO M):JO ((Ux M n).getD M):=by
 cases e:Ux M n with
 |none=>exact h
 |some M'=>
  unfold Ux at e;simp only[ab0,aas]at e;obtain⟨i,hi,B,hB,rfl⟩:=e;exact lJ h (h.1 i B hB) λa=>bZ
theorem GI{M:MM}{n:Int}(h:JO M):JO ((UC M n).getD M):=by
 cases e:UC M n with
 |none=>exact h
 |some M'=>
  unfold UC at e;simp only[ab0,aas]at e;obtain⟨i,hi,B,hB,rfl⟩:=e;refine lJ h (h.1 i B hB) λa=>?_;show vb ((if a<_ then zc else B.byte a).p);split
  ·exact bZ
  ·exact h.2.2 i B hB a
theorem JP{M:MM}(n:Int)(h:JO M):JO (w7 M n).1/\Xl (w7 M n).2.1:=by
 unfold w7;split
 ·exact⟨h,Ua⟩
 split
 ·exact⟨h,Ua⟩
 ·refine⟨⟨?_,by simp;omega,λi B hB a=>?_⟩,?_⟩
  ·exact DQ h.1 (by show n.toNat<_;omega)
  ·rw[List.getElem?_append]at hB;split at hB
   ·exact h.2.2 i B hB a
   ·cases hq:i-M.length with
    |zero=>rw[hq]at hB;simp at hB;subst hB;exact bZ
    |succ k=>rw[hq]at hB;simp at hB
  ·show Xl ((M.length:Int)+1);constructor <;> omega
theorem rX:∀(ns:List Int) (M:MM) (l:List Int),JO M->(∀z,z∈l->Xl z)->JO (vX ns M l).1/\(vX ns M l).2.length=l.length+ns.length /\ ∀z,z∈(vX ns M l).2->Xl z
 |[],M,l,h,hl=>⟨h,by simp[vX],hl⟩
 |n::ns,M,l,h,hl=>by
  have a:=JP n h
  obtain⟨b,c,d⟩:=rX ns ((UC (w7 M n).1 (w7 M n).2.1).getD (w7 M n).1) (l++[(w7 M n).2.1]) (GI a.1) λz hz=>by
   rcases aa2.1 hz with q|q
   ·exact hl z q
   ·simp only[abn]at q;subst q;exact a.2
  refine⟨b,?_,d⟩;show(vX ns _ _).2.length=_;rw[c];simp;omega
theorem lp:∀(ns:List Int) (n:Int) (M:MM) (l:List Int),vX (ns++[n]) M l=(((UC (w7 (vX ns M l).1 n).1 (w7 (vX ns M l).1 n).2.1).getD (w7 (vX ns M l).1 n).1),(vX ns M l).2++[(w7 (vX ns M l).1 n).2.1])
 |[],n,M,l=>rfl
 |m::ns,n,M,l=>lp ns n _ _
theorem Bt:JO []:=⟨λi B h=>(by cases h),by decide,λi B h=>(by cases h)⟩
end Go.Rm
